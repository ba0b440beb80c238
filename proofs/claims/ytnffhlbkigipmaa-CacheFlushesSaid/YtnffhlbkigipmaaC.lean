/- DERIVED. reach.Less on sound sets: what it answers, in new memory. -/
import Derived.Test.YtnffhlbkigipmaaB
namespace Go.Proofs.Ytnffhlbkigipmaa
open Go.RowKit Flo
@[go_sem] theorem dec_le (m n : Nat) : (decide (m < n) || decide (m = n)) = decide (m ≤ n) := by
  by_cases h : m ≤ n
  · rw [decide_eq_true h]; rcases Nat.lt_or_eq_of_le h with h | h <;> simp [h]
  · rw [decide_eq_false h, decide_eq_false (by omega), decide_eq_false (by omega)]; rfl
@[go_sem] theorem dec_ge (m n : Nat) : (decide (n < m) || decide (m = n)) = decide (n ≤ m) := by
  by_cases h : n ≤ m
  · rw [decide_eq_true h]; rcases Nat.lt_or_eq_of_le h with h | h <;> simp [h]
  · rw [decide_eq_false h, decide_eq_false (by omega), decide_eq_false (by omega)]; rfl
def lessStep (top : Nat) (s : Nat × List (Nat × Nat)) (p : Nat × Nat) : Nat × List (Nat × Nat) :=
  if p.2 ≤ s.1 ∨ top ≤ p.1 then s else (p.2, if s.1 < p.1 then s.2 ++ [(s.1, p.1)] else s.2)
theorem lessStep_skip {top : Nat} {s : Nat × List (Nat × Nat)} {p : Nat × Nat} (h : p.2 ≤ s.1 ∨ top ≤ p.1) : lessStep top s p = s := by unfold lessStep; rw [if_pos h]
theorem lessStep_gap {top f : Nat} {o : List (Nat × Nat)} {p : Nat × Nat} (h1 : f < p.2) (h2 : p.1 < top) (h3 : f < p.1) : lessStep top (f, o) p = (p.2, o ++ [(f, p.1)]) := by
  unfold lessStep; rw [if_neg (by simp; omega)]; simp [h3]
theorem lessStep_no {top f : Nat} {o : List (Nat × Nat)} {p : Nat × Nat} (h1 : f < p.2) (h2 : p.1 < top) (h3 : p.1 ≤ f) : lessStep top (f, o) p = (p.2, o) := by
  unfold lessStep; rw [if_neg (by simp; omega)]; simp; omega
def lessIn (z : Nat × Nat) (out B : List (Nat × Nat)) : Nat × List (Nat × Nat) := B.foldl (lessStep z.2) (z.1, out)
def lessOne (B out : List (Nat × Nat)) (z : Nat × Nat) : List (Nat × Nat) :=
  if (lessIn z out B).1 < z.2 then (lessIn z out B).2 ++ [((lessIn z out B).1, z.2)] else (lessIn z out B).2
def lessF (A B : List (Nat × Nat)) : List (Nat × Nat) := A.foldl (lessOne B) []

theorem lessIn_snoc (z : Nat × Nat) (out B : List (Nat × Nat)) (p : Nat × Nat) : lessIn z out (B ++ [p]) = lessStep z.2 (lessIn z out B) p := by simp [lessIn]
theorem take_snocL (B : List (Nat × Nat)) {k : Nat} (h : k < B.length) : B.take (k + 1) = B.take k ++ [(lo B k, hi B k)] := by
  have e : (lo B k, hi B k) = B[k] := by simp [lo, hi, List.getD, h]
  rw [List.take_succ_eq_append_getElem h, e]
theorem lessIn_take (z : Nat × Nat) (out B : List (Nat × Nat)) {k : Nat} (h : k < B.length) : lessIn z out (B.take (k + 1)) = lessStep z.2 (lessIn z out (B.take k)) (lo B k, hi B k) := by
  rw [take_snocL B h, lessIn_snoc]
theorem lessF_take (A B : List (Nat × Nat)) {k : Nat} (h : k < A.length) : lessF (A.take (k + 1)) B = lessOne B (lessF (A.take k) B) (lo A k, hi A k) := by
  rw [take_snocL A h]; simp [lessF]
theorem lessStep_len (top : Nat) (s : Nat × List (Nat × Nat)) (p : Nat × Nat) : (lessStep top s p).2.length ≤ s.2.length + 1 := by
  unfold lessStep; split
  · simp
  · dsimp only; split <;> simp
theorem lessIn_len (z : Nat × Nat) (out B : List (Nat × Nat)) : (lessIn z out B).2.length ≤ out.length + B.length := by
  unfold lessIn
  suffices ∀ s : Nat × List (Nat × Nat), (B.foldl (lessStep z.2) s).2.length ≤ s.2.length + B.length from this _
  induction B with
  | nil => intro s; simp
  | cons p B ih => intro s; have := ih (lessStep z.2 s p); have := lessStep_len z.2 s p; simp only [List.foldl_cons, List.length_cons]; omega
theorem lessOne_len (B out : List (Nat × Nat)) (z : Nat × Nat) : (lessOne B out z).length ≤ out.length + B.length + 1 := by
  have := lessIn_len z out B
  unfold lessOne; split
  · simp; omega
  · omega
theorem lessF_len (A B : List (Nat × Nat)) : (lessF A B).length ≤ A.length * (B.length + 1) := by
  unfold lessF
  suffices ∀ s : List (Nat × Nat), (A.foldl (lessOne B) s).length ≤ s.length + A.length * (B.length + 1) by simpa using this []
  induction A with
  | nil => intro s; simp
  | cons p A ih => intro s; have := ih (lessOne B s p); have := lessOne_len B s p; simp only [List.foldl_cons, List.length_cons, Nat.add_mul, Nat.one_mul]; omega
theorem lessIn_lim (z : Nat × Nat) (out B : List (Nat × Nat)) (hz : Lim z.1) (hB : Snd B) (k : Nat) (hk : k ≤ B.length) : Lim (lessIn z out (B.take k)).1 := by
  induction k with
  | zero => simpa [lessIn] using hz
  | succ k ih =>
    rw [lessIn_take _ _ _ (by omega)]
    unfold lessStep; split
    · exact ih (by omega)
    · exact hB.lim k (by omega)

theorem cellZ {base : Nat} {v : Value} {L : List (Nat × Nat)} {w : World} (h : Rd w base v L.length (zcs L)) (hL : L ≠ []) :
    ∃ g cap, v = .slice (some ⟨g, 0, none⟩) L.length cap ∧ g < w.heap.size ∧ ∀ j, j < L.length → w.cell? ⟨g, j, none⟩ = some (zc (lo L j) (hi L j)) := by
  rcases h with ⟨_, h0, _⟩ | ⟨g, cap, h, _, hg, hc⟩
  · exact absurd (by simpa using h0) hL
  · exact ⟨g, cap, h, hg, fun j hj => hc j _ (zcs_at L hj)⟩
def NewZ2 (w : World) (L : List (Nat × Nat)) (e : Ending) (w' : World) : Prop := ∃ v', e = .returned (.tuple #[v', .int .i64 0]) ∧ Rd w' w.heap.size v' L.length (zcs L) ∧ Kp [] w w'
theorem zcs_append (A : List (Nat × Nat)) (p : Nat × Nat) : zcs A ++ [zc p.1 p.2] = zcs (A ++ [p]) := by simp [zcs]

theorem cell_one {w : World} {u : Value} {e : TypeId} : ∀ (j : Nat) (x : Value), [u][j]? = some x → (w.alloc (.cells #[u] e)).cell? ((⟨w.heap.size, 0, none⟩ : Addr).add j) = some x := by
  intro j x hj
  match j, hj with
  | 0, hj => simp at hj; subst hj; rw [Addr.add_lit, World.cell?_alloc_at _ _ _ _ rfl]; rfl
theorem one_zc {a b : Nat} : ∀ u ∈ [zc a b], u.oneCell' = true := by intro u hu; simp at hu; subst hu; rfl

set_option maxRecDepth 100000 in
set_option maxHeartbeats 1000000 in
theorem less_some {b1 b2 : Nat} {v1 v2 : Value} {A B : List (Nat × Nat)} {w : World} (h1 : Rd w b1 v1 A.length (zcs A)) (h2 : Rd w b2 v2 B.length (zcs B)) (hA : Snd A) (hB : Snd B)
    (lA : A.length ≤ 100) (lB : B.length ≤ 100) (nA : A ≠ []) (nB : B ≠ []) : Calls Try.prog 26 #[v1, v2] w (NewZ2 w (lessF A B)) := by
  obtain ⟨g1, c1, rfl, hg1, hc1⟩ := cellZ h1 nA
  obtain ⟨g2, c2, rfl, hg2, hc2⟩ := cellZ h2 nB
  have H1 := hid h1
  have H2 := hid h2
  have C1 := hid hc1
  have C2 := hid hc2
  have SA := hid hA
  have SB := hid hB
  clear h1 h2 hc1 hc2 hA hB nA nB
  go_enter Try.func26, Try.ntmps26
  go_wp2_with ((with_reducible refine (sound_yes (by first | exact H1.out | exact H2.out) (by first | exact SA.out | exact SB.out) (by omega)).mono ?_); rintro e w' ⟨rfl, rfl⟩)
  go_loopw [6, 22] (fun v i wr => ∃ k : Nat, k ≤ A.length ∧ i = .int .i64 k ∧ wr.ownsRow w.heap.size 52 1 v (lessF (A.take k) B).length (zcs (lessF (A.take k) B)) ∧ Kp [] w wr) (fun _ i _ => A.length - (intOf i).toNat)
  case atStart => exact ⟨0, Nat.zero_le _, rfl, World.ownsRow_nil _ _ _ _, Kp.refl _ _⟩
  case round =>
    obtain ⟨k, hk, rfl, hown, hkp⟩ := hrel
    by_cases hlt : k < A.length
    · have hz := hkp.cell (p := ⟨g1, k, none⟩) (by simp) (C1.out k hlt)
      have hlim : Lim (hi A k) := SA.out.lim k hlt
      have hlt2 := SA.out.lt k hlt
      have hlimlo : Lim (lo A k) := by unfold Lim at *; omega
      have HO := hid hown
      have HK := hid hkp
      clear hown hkp
      have hlen := lessF_len (A.take k) B
      obtain ⟨o0, ho0⟩ : ∃ o0, o0 = lessF (A.take k) B := ⟨_, rfl⟩
      have hbig : o0.length ≤ 10100 := by
        have e1 : (A.take k).length ≤ 100 := by simp; omega
        have e2 : (A.take k).length * (B.length + 1) ≤ 100 * 101 := Nat.mul_le_mul e1 (by omega)
        rw [ho0]; omega
      have HO' : Hid (wr.ownsRow w.heap.size 52 1 u6 o0.length (zcs o0)) := by rw [ho0]; exact HO
      have E0 := hid ho0
      clear HO ho0 hlen
      obtain ⟨wo, hwo⟩ : ∃ wo : World, wo = wr := ⟨_, rfl⟩
      rw [← hwo] at HO' HK hz ⊢
      clear hwo
      go_wp2
      go_loopw [6, 9, 30] (fun v fr i wi => ∃ (j f : Nat) (o : List (Nat × Nat)), j ≤ B.length ∧ i = .int .i64 j ∧ fr = .float .f64 (fb f) ∧ Lim f ∧ Hid (lessIn (lo A k, hi A k) o0 (B.take j) = (f, o)) ∧ o.length ≤ 10100 + j ∧ Hid (wi.ownsRow w.heap.size 52 1 v o.length (zcs o)) ∧ Hid (Kp [] w wi)) (fun _ _ i _ => B.length - (intOf i).toNat)
      case atStart => exact ⟨0, lo A k, o0, Nat.zero_le _, rfl, rfl, hlimlo, rfl, by omega, HO', HK⟩
      case round =>
        obtain ⟨j, f, o, hj, rfl, rfl, hf, HI, hol, HOi, HKi⟩ := hrel
        by_cases hj2 : j < B.length
        · have hz2 := HKi.out.cell (p := ⟨g2, j, none⟩) (by simp) (C2.out j hj2)
          have l1 : Lim (hi B j) := SB.out.lim j hj2
          have l2 := SB.out.lt j hj2
          have l3 : Lim (lo B j) := by unfold Lim at *; omega
          have HT := hid (lessIn_take (lo A k, hi A k) o0 B hj2)
          by_cases hs1 : hi B j ≤ f
          · go_wp2
            go_roundw
            case rel => exact ⟨j + 1, f, o, by omega, by go_num, rfl, hf, HT.out.trans (by rw [HI.out]; exact lessStep_skip (.inl hs1)), by omega, HOi, HKi⟩
            case measure => simp [intOf]; omega
          · by_cases hs2 : hi A k ≤ lo B j
            · go_wp2
              go_roundw
              case rel => exact ⟨j + 1, f, o, by omega, by go_num, rfl, hf, HT.out.trans (by rw [HI.out]; exact lessStep_skip (.inr hs2)), by omega, HOi, HKi⟩
              case measure => simp [intOf]; omega
            · by_cases hs3 : f < lo B j
              · go_wp2_with (at_builtin; refine app52 rfl (.tmp 49) (.tmp 54) rfl w.heap.size _ o.length (zcs o) rfl (HOi.out.alloc _) ⟨wr.heap.size, 0, none⟩ 1 1 [zc f (lo B j)] rfl rfl cell_one one_zc (by omega) (by have := HKi.out.size; simp; omega) ?_)
                intro v' w' hown' hgrow _
                have hk' := (HKi.out.alloc (.cells #[zc f (lo B j)] 52)).grown hgrow (fun k hk => .inr ((HOi.out.lt k hk).1))
                rw [zcs_append o (f, lo B j)] at hown'
                have HO2 := hid hown'
                have HK2 := hid hk'
                clear hown' hgrow hk' HOi HKi
                go_wp2
                go_roundw
                case rel => exact ⟨j + 1, hi B j, o ++ [(f, lo B j)], by omega, by go_num, rfl, l1, HT.out.trans (by rw [HI.out]; exact lessStep_gap (by simp; omega) (by simp; omega) (by simpa using hs3)), by simp; omega, by simpa using HO2, HK2⟩
                case measure => simp [intOf]; omega
              · go_wp2
                go_roundw
                case rel => exact ⟨j + 1, hi B j, o, by omega, by go_num, rfl, l1, HT.out.trans (by rw [HI.out]; exact lessStep_no (by simp; omega) (by simp; omega) (by simp; omega)), by omega, HOi, HKi⟩
                case measure => simp [intOf]; omega
        · obtain rfl : j = B.length := by omega
          have HF : Hid (lessIn (lo A k, hi A k) o0 B = (f, o)) := by have := HI.out; rwa [List.take_length] at this
          have HT := hid (lessF_take A B hlt)
          by_cases ht : f < hi A k
          · go_wp2_with (at_builtin; refine app52 rfl (.tmp 63) (.tmp 68) rfl w.heap.size _ o.length (zcs o) rfl (HOi.out.alloc _) ⟨wr.heap.size, 0, none⟩ 1 1 [zc f (hi A k)] rfl rfl cell_one one_zc (by omega) (by have := HKi.out.size; simp; omega) ?_)
            intro v' w' hown' hgrow _
            have hk' := (HKi.out.alloc (.cells #[zc f (hi A k)] 52)).grown hgrow (fun k hk => .inr ((HOi.out.lt k hk).1))
            rw [zcs_append o (f, hi A k)] at hown'
            have HO2 := hid hown'
            have HK2 := hid hk'
            clear hown' hgrow hk' HOi HKi
            have HR : Hid (lessF (A.take (k + 1)) B = o ++ [(f, hi A k)]) := by show _ = _; rw [HT.out, ← E0.out]; unfold lessOne; rw [HF.out]; simp [ht]
            go_wp2
            go_roundw
            case rel => exact ⟨k + 1, by omega, by go_num, by rw [HR.out]; simpa using HO2.out, HK2.out⟩
            case measure => simp [intOf]; omega
          · have HR : Hid (lessF (A.take (k + 1)) B = o) := by show _ = _; rw [HT.out, ← E0.out]; unfold lessOne; rw [HF.out]; simp [ht]
            go_wp2
            go_roundw
            case rel => exact ⟨k + 1, by omega, by go_num, by rw [HR.out]; exact HOi.out, HKi.out⟩
            case measure => simp [intOf]; omega
    · obtain rfl : k = A.length := by omega
      rw [List.take_length] at hown
      have HO := hid hown
      have HK := hid hkp
      clear hown hkp
      go_wp2_with ((with_reducible refine (clipZ HO.out).mono ?_); rintro e w' ⟨v', rfl, hrd, rfl⟩; have HR := hid hrd; clear hrd)
      go_ret2
      exact ⟨v', rfl, HR.out, HK.out⟩

set_option maxRecDepth 100000 in
set_option maxHeartbeats 400000 in
theorem less_none {b1 b2 : Nat} {v1 v2 : Value} {B : List (Nat × Nat)} {w : World} (h1 : Rd w b1 v1 ([] : List (Nat × Nat)).length (zcs [])) (h2 : Rd w b2 v2 B.length (zcs B)) (hB : Snd B)
    (lB : B.length ≤ 100) : Calls Try.prog 26 #[v1, v2] w (NewZ2 w []) := by
  obtain ⟨a1, c1, rfl⟩ : ∃ a c, v1 = .slice a 0 c := by
    rcases h1 with ⟨rfl, _⟩ | ⟨g, cap, rfl, _⟩
    · exact ⟨_, _, rfl⟩
    · exact ⟨_, _, rfl⟩
  have H1 := hid h1
  have H2 := hid h2
  have SA : Hid (Snd []) := ⟨fun i hi => by simp at hi, fun i hi => by simp at hi, fun i hi => by simp at hi⟩
  have SB := hid hB
  clear h1 h2 hB
  go_enter Try.func26, Try.ntmps26
  go_wp2_with ((with_reducible refine (sound_yes (by first | exact H1.out | exact H2.out) (by first | exact SA.out | exact SB.out) (by first | omega | simp)).mono ?_); rintro e w' ⟨rfl, rfl⟩)
  refine wp_loop_once ?_
  go_wp2_with ((with_reducible refine (clipZ (base := w.heap.size) (L := []) (World.ownsRow_nil _ _ _ _)).mono ?_); rintro e w' ⟨v', rfl, hrd, rfl⟩; have HR := hid hrd; clear hrd)
  go_ret2
  exact ⟨v', rfl, HR.out, Kp.refl _ _⟩
set_option maxRecDepth 100000 in
set_option maxHeartbeats 1000000 in
theorem less_all {b1 b2 : Nat} {v1 v2 : Value} {A : List (Nat × Nat)} {w : World} (h1 : Rd w b1 v1 A.length (zcs A)) (h2 : Rd w b2 v2 ([] : List (Nat × Nat)).length (zcs [])) (hA : Snd A)
    (lA : A.length ≤ 100) (nA : A ≠ []) : Calls Try.prog 26 #[v1, v2] w (NewZ2 w (lessF A [])) := by
  obtain ⟨g1, c1, rfl, hg1, hc1⟩ := cellZ h1 nA
  obtain ⟨a2, c2, rfl⟩ : ∃ a c, v2 = .slice a 0 c := by
    rcases h2 with ⟨rfl, _⟩ | ⟨g, cap, rfl, _⟩
    · exact ⟨_, _, rfl⟩
    · exact ⟨_, _, rfl⟩
  have H1 := hid h1
  have H2 := hid h2
  have C1 := hid hc1
  have SA := hid hA
  have SB : Hid (Snd []) := ⟨fun i hi => by simp at hi, fun i hi => by simp at hi, fun i hi => by simp at hi⟩
  clear h1 h2 hc1 hA nA
  go_enter Try.func26, Try.ntmps26
  go_wp2_with ((with_reducible refine (sound_yes (by first | exact H1.out | exact H2.out) (by first | exact SA.out | exact SB.out) (by first | omega | simp)).mono ?_); rintro e w' ⟨rfl, rfl⟩)
  go_loopw [6, 22] (fun v i wr => ∃ k : Nat, k ≤ A.length ∧ i = .int .i64 k ∧ wr.ownsRow w.heap.size 52 1 v (lessF (A.take k) []).length (zcs (lessF (A.take k) [])) ∧ Kp [] w wr) (fun _ i _ => A.length - (intOf i).toNat)
  case atStart => exact ⟨0, Nat.zero_le _, rfl, World.ownsRow_nil _ _ _ _, Kp.refl _ _⟩
  case round =>
    obtain ⟨k, hk, rfl, hown, hkp⟩ := hrel
    by_cases hlt : k < A.length
    · have hz := hkp.cell (p := ⟨g1, k, none⟩) (by simp) (C1.out k hlt)
      have hlim : Lim (hi A k) := SA.out.lim k hlt
      have hlt2 := SA.out.lt k hlt
      have hlimlo : Lim (lo A k) := by unfold Lim at *; omega
      have hlen := lessF_len (A.take k) []
      have hbig : (lessF (A.take k) []).length ≤ 10100 := by
        have e1 : (A.take k).length ≤ 100 := by simp; omega
        simp only [List.length_nil, Nat.zero_add, Nat.mul_one] at hlen; omega
      have HO := hid hown
      have HK := hid hkp
      have HT := hid (lessF_take A [] hlt)
      clear hown hkp hlen
      go_wp2
      refine wp_loop_once ?_
      go_wp2_with (at_builtin; refine app52 rfl (.tmp 63) (.tmp 68) rfl w.heap.size _ (lessF (A.take k) []).length (zcs (lessF (A.take k) [])) rfl (HO.out.alloc _) ⟨wr.heap.size, 0, none⟩ 1 1 [zc (lo A k) (hi A k)] rfl rfl cell_one one_zc (by omega) (by have := HK.out.size; simp; omega) ?_)
      intro v' w' hown' hgrow _
      have hk' := (HK.out.alloc (.cells #[zc (lo A k) (hi A k)] 52)).grown hgrow (fun k hk => .inr ((HO.out.lt k hk).1))
      rw [zcs_append _ (lo A k, hi A k)] at hown'
      have HO2 := hid hown'
      have HK2 := hid hk'
      clear hown' hgrow hk' HO HK
      have HR : Hid (lessF (A.take (k + 1)) [] = lessF (A.take k) [] ++ [(lo A k, hi A k)]) := by
        show _ = _; rw [HT.out]; unfold lessOne lessIn; simp [hlt2]
      go_wp2
      go_roundw
      case rel => exact ⟨k + 1, by omega, by go_num, by rw [HR.out]; simpa using HO2.out, HK2.out⟩
      case measure => simp [intOf]; omega
    · obtain rfl : k = A.length := by omega
      rw [List.take_length] at hown
      have HO := hid hown
      have HK := hid hkp
      clear hown hkp
      go_wp2_with ((with_reducible refine (clipZ HO.out).mono ?_); rintro e w' ⟨v', rfl, hrd, rfl⟩; have HR := hid hrd; clear hrd)
      go_ret2
      exact ⟨v', rfl, HR.out, HK.out⟩
theorem lessF_none (B : List (Nat × Nat)) : lessF [] B = [] := rfl
theorem less_any {b1 b2 : Nat} {v1 v2 : Value} {A B : List (Nat × Nat)} {w : World} (h1 : Rd w b1 v1 A.length (zcs A)) (h2 : Rd w b2 v2 B.length (zcs B)) (hA : Snd A) (hB : Snd B)
    (lA : A.length ≤ 100) (lB : B.length ≤ 100) : Calls Try.prog 26 #[v1, v2] w (NewZ2 w (lessF A B)) := by
  by_cases nA : A = []
  · subst nA; exact less_none h1 h2 hB lB
  · by_cases nB : B = []
    · subst nB; exact less_all h1 h2 hA lA nA
    · exact less_some h1 h2 hA hB lA lB nA nB
end Go.Proofs.Ytnffhlbkigipmaa
