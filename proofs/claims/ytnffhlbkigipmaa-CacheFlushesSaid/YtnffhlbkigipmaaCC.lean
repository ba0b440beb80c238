/- DERIVED. CacheFlushes answers true at every input and what it is handed reads as before. No condition -/
import Derived.Test.YtnffhlbkigipmaaBB
import Derived.ProofKit
import Derived.OpenShut
import Derived.Deep.Slices
namespace Go.Proofs.Ytnffhlbkigipmaa
open Go.ChangeShapes Go.WideShapes Go.ChangeAt Go.RowKit Flo
theorem Try.own2 : ownKnob Try.prog.godebug = none := by kernel_rfl
theorem Try.laidOut2 : laidOutB Try.prog = true := by kernel_rfl
theorem Try.one5 : Try.prog.cellsOf 5 = 1 := by kernel_rfl
theorem Try.one22 : Try.prog.cellsOf 22 = 1 := by kernel_rfl
theorem Try.one23 : Try.prog.cellsOf 23 = 1 := by kernel_rfl
section
variable {H : Type} {enc : TypeId × Value → H} {W : World}
/-- A slice of bytes that came in. -/
theorem rdB_of_trod {fuel : Nat} {a : Option Addr} {len cap : Nat} {x : DataW H × List MemPlace} (hf : DataW.trod enc Try.prog W 0 (fun _ => true) true fuel 23 [Value.slice a len cap] = some x) :
    ∃ l : List Int, l.length = len ∧ len ≤ maxLen ∧ (0 < l.length → RdB W (.slice a len cap) l) := by
  rcases open_ints Try.underlying23 Try.underlying5 Try.one5 hf with ⟨hcs, hx⟩ | ⟨a, len', cap', zs, hcs, _, hle, hmax, hall, hx, hcell, hwf⟩
  · simp at hcs
    obtain ⟨rfl, rfl, rfl⟩ := hcs
    exact ⟨[], rfl, by decide, fun h => absurd h (by simp)⟩
  · simp at hcs
    obtain ⟨rfl, rfl, rfl⟩ := hcs
    simp only [if_pos] at hall
    have hlen : (zs.take len).length = len := by simp; omega
    refine ⟨zs.take len, hlen, by omega, fun hpos => ?_⟩
    obtain ⟨b, off, rfl, hc⟩ := ints_at hcell (by omega)
    refine .inr ⟨b, off, cap, by rw [hlen], World.block_lt_of_cell? W ⟨b, off + 0, none⟩ (hc 0 (by omega)), fun j u hu => ?_⟩
    have hj : j < (zs.take len).length := by rw [← bts_len]; exact (List.getElem?_eq_some_iff.1 hu).1
    rw [bts_at _ hj] at hu
    cases hu
    rw [hlen] at hj
    rw [hc j (by omega)]
    simp [List.getD, hj]
theorem us_of_trod {fuel : Nat} {a : Option Addr} {len cap : Nat} {x : DataW H × List MemPlace} (hf : DataW.trod enc Try.prog W 0 (fun _ => true) true fuel 36 [Value.slice a len cap] = some x) : Us W a len := by
  rcases open_ints Try.underlying36 Try.underlying22 Try.one22 hf with ⟨hcs, hx⟩ | ⟨a, len', cap', zs, hcs, _, hle, hmax, hall, hx, hcell, hwf⟩
  · simp at hcs
    obtain ⟨rfl, rfl, rfl⟩ := hcs
    exact ⟨by decide, fun h => absurd h (by simp)⟩
  · simp at hcs
    obtain ⟨rfl, rfl, rfl⟩ := hcs
    simp only [if_pos] at hall
    refine ⟨by omega, fun hpos => ?_⟩
    obtain ⟨b, off, rfl, hc⟩ := ints_at hcell (by omega)
    refine ⟨b, off, rfl, World.block_lt_of_cell? W ⟨b, off + 0, none⟩ (hc 0 (by omega)), fun i hi => ?_⟩
    have hz : i < zs.length := by omega
    have hb := bounds_u16 (hwf zs[i] (List.getElem_mem hz))
    have he : zs.getD i 0 = zs[i] := by simp [List.getD, hz]
    refine ⟨zs[i].toNat, by omega, ?_⟩
    rw [hc i hz, he, show ((zs[i].toNat : Nat) : Int) = zs[i] by omega]
theorem ds_of_trod {fuel : Nat} {a : Option Addr} {len cap : Nat} {x : DataW H × List MemPlace} (hf : DataW.trod enc Try.prog W 0 (fun _ => true) true fuel 37 [Value.slice a len cap] = some x) : Ds W a len := by
  rcases Go.Deep.open_slice1 Try.underlying37 Try.one23 hf with ⟨hcs, hx⟩ | ⟨a, len', cap', m, n, V, D, Pl, hcs, _, hle, hmax, hm, hx, hall⟩
  · simp at hcs
    obtain ⟨rfl, rfl, rfl⟩ := hcs
    exact ⟨by decide, fun h => absurd h (by simp)⟩
  · simp at hcs
    obtain ⟨rfl, rfl, rfl⟩ := hcs
    simp only [if_pos] at hm
    refine ⟨by omega, fun hpos => ?_⟩
    obtain ⟨b, off, spot⟩ := a
    have hspot : spot = none := by simpa [Addr.add] using World.cell?_spot (hall 0 (by omega)).1
    subst hspot
    have hc : ∀ i, i < m → W.cell? ⟨b, off + i, none⟩ = some (V i) := fun i hi => by have := (hall i hi).1; rwa [Addr.add_lit] at this
    refine ⟨b, off, rfl, World.block_lt_of_cell? W ⟨b, off + 0, none⟩ (hc 0 (by omega)), fun i hi => ?_⟩
    have ht := (hall i (by omega)).2
    obtain ⟨a2, l2, c2, hv⟩ : ∃ a l c, V i = .slice a l c := by
      rcases open_ints Try.underlying23 Try.underlying5 Try.one5 ht with ⟨hcs, _⟩ | ⟨a, len', cap', zs, hcs, _⟩
      · exact ⟨none, 0, 0, by simpa using hcs⟩
      · exact ⟨_, _, _, by simpa using hcs⟩
    rw [hv] at ht
    obtain ⟨l, hl, hmx, hr⟩ := rdB_of_trod ht
    subst hl
    exact ⟨l, a2, c2, hmx, by rw [hc i (by omega), hv], hr⟩
end
set_option maxRecDepth 100000 in
theorem flushes_lifted (os : Os) (started : os.Started) (H : Type) (enc : TypeId × Value → H) :
    ReturnsInHanded {} Try.checked os 4 .any (Rows.cacheFlushesSpec.pre6 enc Try.prog Try.f4 Rows.cacheFlushesRow.domain false) (Rows.cacheFlushesSpec.post enc Try.prog Try.f4 false true false false) := by
  refine returnsInHanded_of_change (C := Try.checked) Try.own2 started (by kernel_rfl) Try.func4
    (ChangeSpec.witness6 (enc := enc) (C := Try.checked) false ⟨#[], #[.slice none 0 0, .slice none 0 0], []⟩ 8 (by kernel_rfl) (by kernel_rfl) (by kernel_rfl) (by kernel_rfl)) ?_
  intro W base args ds gs before hval0 hW hcnd _
  have hval : ∀ (j : Nat) t v, Try.f4.params[j]? = some t → args[j]? = some v → Value.okWide Try.prog W .any base t v := hval0
  have hW' := hW
  obtain ⟨p, q, hA0, hV, rfl, hfz, hnd⟩ := hW
  have hA : DataW.TrodAll enc Try.prog W 0 (fun _ => true) true Try.f4.params.toList args.toList ds p := hA0
  rw [Try.params4] at hA hval
  obtain ⟨v0, v1, d0, d1, p0, p1, rfl, rfl, rfl, h0, h1⟩ := trodAll_two hA
  obtain ⟨rfl, rfl⟩ := trodVars_none hV
  obtain ⟨aa, la, ca, rfl⟩ := okWide_slice Try.underlying36 (hval 0 36 v0 rfl rfl)
  obtain ⟨ad, ld, cd, rfl⟩ := okWide_slice Try.underlying37 (hval 1 37 v1 rfl rfl)
  have h0k := h0
  have h1k := h1
  obtain ⟨fuel0, hf0⟩ := h0
  obtain ⟨fuel1, hf1⟩ := h1
  clear hA0 hval0
  simp only [List.append_nil] at hW'
  have hlt : ∀ x ∈ p0 ++ p1, x.block < W.heap.size := fun x hx => by simpa using hW'.lt x hx
  have hu := us_of_trod hf0
  have hd := ds_of_trod hf1
  refine (flushes_any aa la ca ad ld cd W hu hd).mono fun e W' ⟨he, hk⟩ => ?_
  subst he
  have bel : Below W.heap.size W W' := hk.below _ (Nat.le_refl _) (by simp)
  exact ⟨_, rfl, ⟨_, _, _, [], _, [], hW', trodAll_mk1 (shut_bool Try.underlying4 _), trodAll_mk2 (Below.trod Try.laidOut2 (by kernel_rfl) (of_decide_eq_true (by kernel_rfl)) h0k bel (fun x hx => hlt x (List.mem_append_left _ hx))) (Below.trod Try.laidOut2 (by kernel_rfl) (of_decide_eq_true (by kernel_rfl)) h1k bel (fun x hx => hlt x (List.mem_append_right _ hx))), rfl, bel.frame _, fun h => by cases h⟩⟩
theorem cacheFlushes_holds : Rows.CacheFlushesSaid :=
  OpenClaim.holds_of_wide 4 Try.f4 rfl rfl rfl rfl rfl rfl rfl ⟨rfl, rfl, rfl, rfl, rfl⟩ rfl rfl rfl rfl rfl (by kernel_rfl) Try.func4 (by kernel_rfl)
    (of_decide_eq_true (by kernel_rfl)) (by unfold Func.isWrapper; first | (rw [if_pos (by decide +kernel)]; kernel_rfl) | (rw [if_neg (by decide +kernel)]; exact ⟨rfl, rfl⟩))
    (fun os started H enc _ => flushes_lifted os started H enc)
end Go.Proofs.Ytnffhlbkigipmaa
