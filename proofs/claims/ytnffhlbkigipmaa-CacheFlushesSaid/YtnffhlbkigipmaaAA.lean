/- DERIVED. Pieces laid over one another: plain law of CacheFlushes -/
import Derived.Test.YtnffhlbkigipmaaX
namespace Go.Proofs.Ytnffhlbkigipmaa
open Go.RowKit Flo
/-- One piece laid over what is there. -/
def lay (xs : List Int) (p : Nat × List Int) : List Int := over (xs ++ List.replicate (p.1 + p.2.length - xs.length) 0) p.1 p.2
def dz (D : List (Nat × List Int)) : List (Int × List Int) := D.map fun p => ((p.1 : Int), p.2)
/-- The pieces that were written, one by one. -/
def POk (p : Nat × List Int) : Prop := p.1 < 2000 ∧ 0 < p.2.length ∧ p.2.length ≤ 300
structure FW (st : CS) (D : List (Nat × List Int)) : Prop where
  mode : st.mode = 2
  size : st.dat.length = st.size
  kn : st.kn = pre st.size
  dat : st.dat = D.foldl lay []
  dirty : st.dirty = dz D
  le : st.size ≤ 2300
  ok : ∀ p ∈ D, POk p
theorem FW.start : FW (S0 0) [] := ⟨rfl, rfl, rfl, rfl, rfl, by simp [S0_size], by simp⟩
theorem over_zeros (xs : List Int) (k j : Nat) (h : j ≤ k) : over (xs ++ List.replicate k 0) xs.length (List.replicate j 0) = xs ++ List.replicate k 0 := by
  unfold over
  rw [List.take_left, List.length_replicate, List.drop_append, List.drop_replicate, List.drop_of_length_le (by omega), List.nil_append, List.append_assoc, List.replicate_append_replicate]
  congr 2; omega
theorem lay_len (xs : List Int) (p : Nat × List Int) : (lay xs p).length = max xs.length (p.1 + p.2.length) := by
  unfold lay
  rw [over_len _ _ _ (by simp; omega)]
  simp; omega
theorem flat_len (D : List (Nat × List Int)) (h : ∀ p ∈ D, POk p) : ∀ xs : List Int, xs.length ≤ 2300 → (D.foldl lay xs).length ≤ 2300 := by
  induction D with
  | nil => exact fun xs h => h
  | cons p D ih =>
    intro xs hx
    have := h p (by simp)
    refine ih (fun q hq => h q (by simp [hq])) _ ?_
    rw [lay_len]; unfold POk at this; omega
theorem flat_take (D : List (Nat × List Int)) (k : Nat) (hk : k < D.length) : (D.take (k + 1)).foldl lay [] = lay ((D.take k).foldl lay []) D[k] := by
  rw [List.take_add_one, List.getElem?_eq_getElem hk, List.foldl_append]; rfl
theorem FW.gap {st : CS} {D : List (Nat × List Int)} (h : FW st D) (a m : Nat) (hm : a ≤ m) :
    (gapC (growC st m) a).dat = st.dat ++ List.replicate (m - st.dat.length) 0 ∧ (gapC (growC st m) a).kn = pre (max st.size a) ∧ (gapC (growC st m) a).size = st.size ∧ (gapC (growC st m) a).mode = 2 ∧ (gapC (growC st m) a).dirty = dz D := by
  unfold gapC
  by_cases h1 : st.size < a
  · rw [if_pos (show (growC st m).size < a from h1)]
    refine ⟨?_, ?_, rfl, h.mode, h.dirty⟩
    · show over (st.dat ++ List.replicate (m - st.dat.length) 0) st.size (List.replicate (a - st.size) 0) = _
      rw [← h.size]; exact over_zeros _ _ _ (by rw [h.size]; omega)
    · show addK st.kn st.size a = _
      rw [h.kn]
      have := add_pre st.size (a - st.size) (by omega)
      rw [show st.size + (a - st.size) = a by omega] at this
      rw [this]; congr 1; omega
  · rw [if_neg (show ¬ (growC st m).size < a from h1)]
    refine ⟨rfl, ?_, rfl, h.mode, h.dirty⟩
    show st.kn = _
    rw [h.kn]; congr 1; omega
theorem add_over (t a e : Nat) (h1 : a ≤ t) (h2 : a < e) : addK (pre t) a e = pre (max t e) := by
  by_cases h0 : t = 0
  · subst h0
    obtain rfl : a = 0 := by omega
    rw [pre_zero, add_nil, pre_pos (by omega)]; simp
  · rw [pre_pos h0, pre_pos (by omega)]
    unfold addK
    simp only [List.length_singleton, List.singleton_append, isort1]
    rw [if_neg (by simp), joinF2 _ _ (by simpa using h1)]
theorem FW.step {st : CS} {D : List (Nat × List Int)} (h : FW st D) (a : Nat) (l : List Int) (ha : a < 2000) (hl : 0 < l.length) (hl3 : l.length ≤ 300) :
    FW (writeC st a l) (D ++ [(a, l)]) ∧ Gds (gapC (growC st (a + l.length)) a).kn ∧ (gapC (growC st (a + l.length)) a).kn.length ≤ 3 := by
  obtain ⟨g1, g2, g3, g4, g5⟩ := h.gap a (a + l.length) (by omega)
  have hle := h.le
  have hsz := h.size
  refine ⟨⟨g4, ?_, ?_, ?_, ?_, ?_, ?_⟩, ?_, ?_⟩
  · show (over _ a l).length = max _ _
    rw [g1, g3, over_len _ _ _ (by simp; omega)]; simp; omega
  · show addK _ a (a + l.length) = pre (max _ _)
    rw [g2, g3, add_over _ _ _ (by omega) (by omega)]; congr 1; omega
  · show over _ a l = _
    rw [g1, List.foldl_append, ← h.dat]; rfl
  · show _ ++ [_] = _
    rw [g5]; simp [dz]
  · show max _ _ ≤ 2300
    rw [g3]; omega
  · intro p hp
    rcases List.mem_append.1 hp with hp | hp
    · exact h.ok p hp
    · simp at hp; subst hp; exact ⟨ha, hl, hl3⟩
  · rw [g2]; exact gds_of_snd (snd_pre _ (by omega))
  · rw [g2]; have := pre_len (max st.size a); omega
end Go.Proofs.Ytnffhlbkigipmaa
