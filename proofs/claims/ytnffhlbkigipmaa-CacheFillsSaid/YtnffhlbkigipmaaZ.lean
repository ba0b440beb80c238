/- DERIVED. CacheFills answers true at every input and what it is handed reads as before. No condition -/
import Derived.Test.YtnffhlbkigipmaaY
import Derived.ProofKit
import Derived.OpenShut
namespace Go.Proofs.Ytnffhlbkigipmaa
open Go.ChangeShapes Go.WideShapes Go.ChangeAt Go.RowKit Flo
theorem Try.own : ownKnob Try.prog.godebug = none := by kernel_rfl
theorem Try.laidOut : laidOutB Try.prog = true := by kernel_rfl
theorem Try.cells5 : Try.prog.cellsOf 5 = 1 := by kernel_rfl
set_option maxRecDepth 100000 in
set_option maxHeartbeats 1000000 in
theorem fills_long (n f : Nat) (ab : Option Addr) (len capb : Nat) (s : Int) (w : World) (hl : 300 < len) (hm : len ≤ maxLen) :
    Calls Try.prog 3 #[.int .u16 n, .int .u16 f, .slice ab len capb, .int .u8 s] w fun e w' => e = .returned (.bool true) ∧ Kp [] w w' := by
  unfold maxLen at hm
  go_enter Try.func3, Try.ntmps3
  go_wp2_with fail
  (with_reducible refine (new_any w).mono ?_)
  rintro e w1 ⟨c, rfl, hc, h1, k1⟩
  go_wp2_with fail
  (with_reducible refine (awake_any w1).mono ?_)
  rintro e w2 ⟨rfl, k2⟩
  go_wp2_with fail
  (with_reducible refine (awake_any w2).mono ?_)
  rintro e w3 ⟨rfl, k3⟩
  go_wp2
  go_ret
  exact ⟨rfl, (k1.trans k2).trans k3⟩
/-- CacheFills, whatever it is handed. -/
theorem fills_any (n f : Nat) (ab : Option Addr) (len capb : Nat) (l : List Int) (s : Int) (w : World) (hn : n ≤ 65535) (hf : f ≤ 65535) (hs0 : 0 ≤ s) (hs1 : s ≤ 255) (hm : len ≤ maxLen) (hlen : l.length = len) (hb : 0 < l.length → RdB w (.slice ab len capb) l) :
    Calls Try.prog 3 #[.int .u16 n, .int .u16 f, .slice ab len capb, .int .u8 s] w fun e w' => e = .returned (.bool true) ∧ Kp [] w w' := by
  by_cases h : 300 < len
  · exact fills_long n f ab len capb s w h hm
  · subst hlen
    exact fills_small n f l ab capb s w hn hf hs0 hs1 hb (by omega)
set_option maxRecDepth 100000 in
theorem fills_lifted (os : Os) (started : os.Started) (H : Type) (enc : TypeId × Value → H) :
    ReturnsInHanded {} Try.checked os 3 .any (Rows.cacheFillsSpec.pre6 enc Try.prog Try.f3 Rows.cacheFillsRow.domain false) (Rows.cacheFillsSpec.post enc Try.prog Try.f3 false true false false) := by
  refine returnsInHanded_of_change (C := Try.checked) Try.own started (by kernel_rfl) Try.func3
    (ChangeSpec.witness6 (enc := enc) (C := Try.checked) false ⟨#[], #[.int .u16 0, .int .u16 0, .slice none 0 0, .int .u8 0], []⟩ 8 (by kernel_rfl) (by kernel_rfl) (by kernel_rfl) (by kernel_rfl)) ?_
  intro W base args ds gs before hval0 hW hcnd _
  have hval : ∀ (j : Nat) t v, Try.f3.params[j]? = some t → args[j]? = some v → Value.okWide Try.prog W .any base t v := hval0
  have hW' := hW
  obtain ⟨p, q, hA0, hV, rfl, hfz, hnd⟩ := hW
  have hA : DataW.TrodAll enc Try.prog W 0 (fun _ => true) true Try.f3.params.toList args.toList ds p := hA0
  rw [Try.params3] at hA hval
  obtain ⟨v0, v1, v2, v3, d0, d1, d2, d3, p0, p1, p2, p3, rfl, rfl, rfl, h0, h1, h2, h3⟩ := trodAll_four hA
  obtain ⟨rfl, rfl⟩ := trodVars_none hV
  obtain ⟨n, rfl, rfl, rfl, wn⟩ := open_int Try.underlying22 (hval 0 22 v0 rfl rfl) h0
  obtain ⟨f, rfl, rfl, rfl, wf⟩ := open_int Try.underlying22 (hval 1 22 v1 rfl rfl) h1
  obtain ⟨s, rfl, rfl, rfl, ws⟩ := open_int Try.underlying5 (hval 3 5 v3 rfl rfl) h3
  obtain ⟨ab, len, cap, rfl⟩ := okWide_slice Try.underlying23 (hval 2 23 v2 rfl rfl)
  have h2k := h2
  obtain ⟨fuel, hf⟩ := h2
  clear hA0 hval0
  simp only [List.append_nil, List.nil_append] at hW'
  have hlt : ∀ x ∈ p2, x.block < W.heap.size := fun x hx => by simpa using hW'.lt x hx
  have bn := bounds_u16 wn
  have bf := bounds_u16 wf
  have bs := bounds_u8 ws
  obtain ⟨n, rfl⟩ := Int.eq_ofNat_of_zero_le bn.1
  obtain ⟨f, rfl⟩ := Int.eq_ofNat_of_zero_le bf.1
  have hl : ∃ l : List Int, l.length = len ∧ len ≤ maxLen ∧ (0 < l.length → RdB W (.slice ab len cap) l) := by
    rcases open_ints Try.underlying23 Try.underlying5 Try.cells5 hf with ⟨hcs, hx⟩ | ⟨a, len', cap', zs, hcs, _, hle, hmax, hall, hx, hcell, hwf⟩
    · simp [Value.cells] at hcs
      obtain ⟨rfl, rfl, rfl⟩ := hcs
      exact ⟨[], rfl, by decide, fun h => absurd h (by simp)⟩
    · simp [Value.cells] at hcs
      obtain ⟨rfl, rfl, rfl⟩ := hcs
      simp only [if_pos] at hall
      have hlen : (zs.take len).length = len := by simp; omega
      refine ⟨zs.take len, hlen, by omega, fun hpos => ?_⟩
      obtain ⟨b, off, rfl, hc⟩ := ints_at hcell (by omega)
      refine .inr ⟨b, off, cap, by rw [hlen], World.block_lt_of_cell? W ⟨b, off + 0, none⟩ (hc 0 (by omega)), fun j u hu => ?_⟩
      have hj : j < (zs.take len).length := by rw [← bts_len]; exact (List.getElem?_eq_some_iff.1 hu).1
      rw [bts_at _ hj] at hu
      cases hu
      rw [hlen] at hj
      rw [hc j (by omega)]
      simp [List.getD, hj]
  obtain ⟨l, hlen, hmax, hb⟩ := hl
  refine (fills_any n f ab len cap l s W (by omega) (by omega) bs.1 bs.2 hmax hlen hb).mono fun e W' ⟨he, hk⟩ => ?_
  subst he
  have bel : Below W.heap.size W W' := hk.below _ (Nat.le_refl _) (by simp)
  exact ⟨_, rfl, ⟨_, _, _, [], _, [], hW', trodAll_mk1 (shut_bool Try.underlying4 _), trodAll_mk4 (shut_int Try.underlying22 wn) (shut_int Try.underlying22 wf) (Below.trod Try.laidOut (by kernel_rfl) (of_decide_eq_true (by kernel_rfl)) h2k bel hlt) (shut_int Try.underlying5 ws), rfl, bel.frame _, fun h => by cases h⟩⟩
theorem cacheFills_holds : Rows.CacheFillsSaid :=
  OpenClaim.holds_of_wide 3 Try.f3 rfl rfl rfl rfl rfl rfl rfl ⟨rfl, rfl, rfl, rfl, rfl⟩ rfl rfl rfl rfl rfl (by kernel_rfl) Try.func3 (by kernel_rfl)
    (of_decide_eq_true (by kernel_rfl)) (by unfold Func.isWrapper; first | (rw [if_pos (by decide +kernel)]; kernel_rfl) | (rw [if_neg (by decide +kernel)]; exact ⟨rfl, rfl⟩))
    (fun os started H enc _ => fills_lifted os started H enc)
end Go.Proofs.Ytnffhlbkigipmaa
