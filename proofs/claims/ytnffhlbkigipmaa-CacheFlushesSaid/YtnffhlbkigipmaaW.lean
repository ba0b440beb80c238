/- DERIVED. What is known, bit by bit: plain law. -/
import Derived.Test.YtnffhlbkigipmaaV
namespace Go.Proofs.Ytnffhlbkigipmaa
open Go.RowKit Flo
def pre (t : Nat) : List (Nat × Nat) := if t = 0 then [] else [(0, t)]
theorem pre_zero : pre 0 = [] := rfl
theorem pre_pos {t : Nat} (h : t ≠ 0) : pre t = [(0, t)] := by unfold pre; rw [if_neg h]
theorem isort1 (a b : Nat × Nat) : isort 1 [a, b] = if b.1 < a.1 then [b, a] else [a, b] := by
  simp [isort, sink, swp, lo]
theorem isort2 (a b c : Nat × Nat) (h1 : a.1 ≤ b.1) (h2 : c.1 < b.1) (h3 : a.1 ≤ c.1) : isort 2 [a, b, c] = [a, c, b] := by
  simp [isort, sink, swp, lo, h2, Nat.not_lt.2 h1, Nat.not_lt.2 h3]
theorem joinF1 (a : Nat × Nat) : joinF [a] = [a] := by simp [joinF, joinStep]
theorem joinF2_gap (a b : Nat × Nat) (h : a.2 < b.1) : joinF [a, b] = [a, b] := by simp [joinF, joinStep, hi, h]
theorem joinF2 (a b : Nat × Nat) (h : b.1 ≤ a.2) : joinF [a, b] = [(a.1, max a.2 b.2)] := by
  simp [joinF, joinStep, hi, lo, Nat.not_lt.2 h]
theorem joinF3 (a b c : Nat × Nat) (h : b.1 ≤ a.2) : joinF [a, b, c] = joinF [(a.1, max a.2 b.2), c] := by
  simp [joinF, joinStep, hi, lo, Nat.not_lt.2 h]
theorem less_pre (Z t : Nat) (hZ : 0 < Z) : lessF [(0, Z)] (pre t) = if t < Z then [(t, Z)] else [] := by
  unfold pre
  by_cases h : t = 0
  · subst h; simp [lessF, lessOne, lessIn, hZ]
  · rw [if_neg h]
    have h0 : 0 < t := by omega
    simp [lessF, lessOne, lessIn, lessStep, h, Nat.not_le.2 hZ]
theorem less_form (Z t A E : Nat) (h1 : t < A) (h2 : A < E) (h3 : E ≤ Z) : lessF [(0, Z)] (pre t ++ [(A, E)]) = (t, A) :: (if E < Z then [(E, Z)] else []) := by
  unfold pre
  by_cases h : t = 0
  · subst h
    simp [lessF, lessOne, lessIn, lessStep, show ¬ E = 0 by omega, show ¬ Z ≤ A by omega, h1]
    split <;> rfl
  · rw [if_neg h]
    simp [lessF, lessOne, lessIn, lessStep, h, show ¬ Z = 0 by omega, show ¬ E ≤ t by omega, show ¬ Z ≤ A by omega, h1]
    split <;> rfl
theorem less_new (t c : Nat) (hc : 0 < c) : lessF [(t, t + c)] (pre t) = [(t, t + c)] := by
  unfold pre
  by_cases h : t = 0
  · subst h; simp [lessF, lessOne, lessIn, hc]
  · rw [if_neg h]; simp [lessF, lessOne, lessIn, lessStep, hc]
theorem less_new2 (t c A E : Nat) (hc : 0 < c) (h1 : t + c ≤ A) : lessF [(t, t + c)] (pre t ++ [(A, E)]) = [(t, t + c)] := by
  unfold pre
  by_cases h : t = 0
  · subst h; simp [lessF, lessOne, lessIn, lessStep, show c ≤ A by omega, hc]
  · rw [if_neg h]; simp [lessF, lessOne, lessIn, lessStep, h1, hc]
theorem add_pre (t c : Nat) (hc : 0 < c) : addK (pre t) t (t + c) = pre (t + c) := by
  unfold addK
  by_cases h : t = 0
  · subst h
    rw [pre_zero, pre_pos (by omega)]; simp [isort, joinF1]
  · rw [pre_pos h, pre_pos (by omega)]
    simp [isort1, joinF2]
theorem add_form (t c A E : Nat) (hc : 0 < c) (h1 : t + c ≤ A) (h2 : A < E) : addK (pre t ++ [(A, E)]) t (t + c) = if t + c < A then pre (t + c) ++ [(A, E)] else pre E := by
  unfold addK
  by_cases h : t = 0
  · subst h
    rw [pre_zero, pre_pos (t := 0 + c) (by omega), pre_pos (t := E) (by omega)]
    simp only [Nat.zero_add, List.nil_append, List.length_singleton, List.singleton_append, isort1]
    rw [if_pos (show 0 < A by omega)]
    by_cases h3 : c < A
    · rw [if_pos h3, joinF2_gap _ _ h3]
    · rw [if_neg h3, joinF2 _ _ (by simp; omega)]; simp; omega
  · rw [pre_pos h, pre_pos (t := t + c) (by omega), pre_pos (t := E) (by omega)]
    simp only [List.cons_append, List.nil_append, List.length_cons, List.length_nil]
    rw [isort2 _ _ _ (by simp) (by simp; omega) (by simp), joinF3 _ _ _ (by simp)]
    by_cases h3 : t + c < A
    · rw [if_pos h3, joinF2_gap _ _ (by simp; omega)]; simp
    · rw [if_neg h3, joinF2 _ _ (by simp; omega)]; simp; omega
theorem add_nil (a b : Nat) : addK [] a b = [(a, b)] := by simp [addK, isort, joinF1]
theorem add_on (n f e : Nat) (h1 : n < f) (h2 : f < e) : addK [(n, f)] f e = [(n, e)] := by
  unfold addK
  simp only [List.length_singleton, List.singleton_append, isort1]
  rw [if_neg (by simp; omega), joinF2 _ _ (by simp)]; simp; omega
theorem snd_pre (t : Nat) (h : t ≤ 9728) : Snd (pre t) := by
  by_cases h0 : t = 0
  · subst h0; exact snd_nil
  · rw [pre_pos h0]; exact snd_one (by omega) (by omega)
theorem snd_form (t A E : Nat) (h1 : t < A) (h2 : A < E) (h3 : E ≤ 9728) : Snd (pre t ++ [(A, E)]) := by
  by_cases h0 : t = 0
  · subst h0; exact snd_one h2 (by omega)
  · rw [pre_pos h0]
    refine ⟨fun i hi' => ?_, fun i hi' => ?_, fun i hi' => ?_⟩
    · match i, hi' with
      | 0, _ => simp [lo, hi]; omega
      | 1, _ => simp [lo, hi]; omega
    · match i, hi' with
      | 0, _ => simp [hi, Lim]; omega
      | 1, _ => simp [hi, Lim]; omega
    · match i, hi' with
      | 0, _ => simp [lo, hi]; omega
theorem pre_len (t : Nat) : (pre t).length ≤ 1 := by unfold pre; split <;> simp
/-- What is known so far, and what is there. -/
structure FI (n Z : Nat) (W T : Nat → Int) (st : CS) (r : Nat) : Prop where
  sz : st.size = Z
  dl : Z ≤ st.dat.length
  ph : (∃ t A E, st.kn = pre t ++ [(A, E)] ∧ t < A ∧ A < E ∧ A ≤ n ∧ E ≤ Z ∧ (E < Z → Z = n) ∧ r = (A - t) + (n - E) ∧ (∀ i, i < t ∨ (A ≤ i ∧ i < E) → st.dat.getD i 0 = W i) ∧ ∀ i, t ≤ i → i < A ∨ E ≤ i → i < n → W i = T i) ∨
    (∃ t, st.kn = pre t ∧ t ≤ Z ∧ (t < Z → Z = n) ∧ r = n - t ∧ (∀ i, i < t → st.dat.getD i 0 = W i) ∧ ∀ i, t ≤ i → i < n → W i = T i)
theorem over_getD (xs : List Int) (p : Nat) (l : List Int) (i : Nat) (h : p + l.length ≤ xs.length) : (over xs p l).getD i 0 = if p ≤ i ∧ i < p + l.length then l.getD (i - p) 0 else xs.getD i 0 := by
  simp only [List.getD, over_at xs p l i h]
  split <;> rfl
/-- Nothing is missing any more. -/
def Full (Z : Nat) (W : Nat → Int) (st : CS) : Prop := st.kn = pre Z ∧ ∀ i, i < Z → st.dat.getD i 0 = W i
/-- The next piece that is missing. -/
def Nxt (n Z : Nat) (W T : Nat → Int) (st : CS) (r : Nat) (L : List (Nat × Nat)) : Prop :=
  ∃ t U, L.length ≠ 0 ∧ lo L 0 = t ∧ hi L 0 = U ∧ t < U ∧ U ≤ n ∧ (∀ i, t ≤ i → i < U → W i = T i) ∧
    ∀ l : List Int, 0 < l.length → t + l.length ≤ U → (∀ i, i < l.length → l.getD i 0 = W (t + i)) → lessF [(t, t + l.length)] st.kn = [(t, t + l.length)] ∧ ∃ r', r' < r ∧ FI n Z W T (fillC st t l) r'
theorem FI.snd {n Z : Nat} {W T : Nat → Int} {st : CS} {r : Nat} (h : FI n Z W T st r) (hZ : Z ≤ 9728) : Snd st.kn ∧ st.kn.length ≤ 3 := by
  rcases h.ph with ⟨t, A, E, hk, h1, h2, h3, h4, _⟩ | ⟨t, hk, h1, _⟩
  · rw [hk]; exact ⟨snd_form t A E h1 h2 (by omega), by have := pre_len t; simp; omega⟩
  · rw [hk]; exact ⟨snd_pre t (by omega), by have := pre_len t; omega⟩
theorem FI.next {n Z : Nat} {W T : Nat → Int} {st : CS} {r : Nat} (h : FI n Z W T st r) (hZ : Z ≤ 9728) (hn : n ≤ Z) (h0 : 0 < Z) (L : List (Nat × Nat)) (hL : L = lessF [(0, Z)] st.kn) :
    (∀ i, i < L.length → lo L i < hi L i ∧ Lim (hi L i)) ∧ ((L = [] ∧ Full Z W st) ∨ Nxt n Z W T st r L) := by
  rcases h.ph with ⟨t, A, E, hk, h1, h2, h3, h4, h5, hr, hd, hu⟩ | ⟨t, hk, h1, h2, hr, hd, hu⟩
  · rw [hk, less_form Z t A E h1 h2 h4] at hL
    refine ⟨?_, .inr ⟨t, A, by rw [hL]; simp, by rw [hL]; rfl, by rw [hL]; rfl, h1, h3, fun i a b => hu i a (.inl b) (by omega), ?_⟩⟩
    · intro i hi'
      rw [hL] at hi' ⊢
      match i, hi' with
      | 0, _ => simp [lo, hi, Lim]; omega
      | 1, hi' =>
        by_cases hE : E < Z
        · rw [if_pos hE]; simp [lo, hi, Lim]; omega
        · rw [if_neg hE] at hi'; simp at hi'
      | k + 2, hi' => split at hi' <;> simp at hi' <;> omega
    · intro l hl hle hv
      refine ⟨by rw [hk]; exact less_new2 t _ A E hl hle, ?_⟩
      have hadd : (fillC st t l).kn = if t + l.length < A then pre (t + l.length) ++ [(A, E)] else pre E := by
        show addK st.kn t (t + l.length) = _
        rw [hk]; exact add_form t _ A E hl hle h2
      have hdat : ∀ i, (fillC st t l).dat.getD i 0 = if t ≤ i ∧ i < t + l.length then l.getD (i - t) 0 else st.dat.getD i 0 := fun i => over_getD _ _ _ _ (by have := h.dl; omega)
      have hlen : Z ≤ (fillC st t l).dat.length := by
        show Z ≤ (over st.dat t l).length
        rw [over_len _ _ _ (by have := h.dl; omega)]; exact h.dl
      have hval : ∀ i, i < t + l.length ∨ (A ≤ i ∧ i < E) → (fillC st t l).dat.getD i 0 = W i := by
        intro i hi'
        rw [hdat]
        by_cases hin : t ≤ i ∧ i < t + l.length
        · rw [if_pos hin, hv _ (by omega)]; congr 1; omega
        · rw [if_neg hin]; exact hd i (by omega)
      by_cases hlt : t + l.length < A
      · rw [if_pos hlt] at hadd
        exact ⟨(A - (t + l.length)) + (n - E), by omega, { sz := h.sz, dl := hlen, ph := .inl ⟨t + l.length, A, E, hadd, hlt, h2, h3, h4, h5, rfl, hval, fun i a b c => hu i (by omega) b c⟩ }⟩
      · rw [if_neg hlt] at hadd
        exact ⟨n - E, by omega, { sz := h.sz, dl := hlen, ph := .inr ⟨E, hadd, h4, h5, rfl, fun i a => hval i (by omega), fun i a b => hu i (by omega) (.inr a) b⟩ }⟩
  · rw [hk, less_pre Z t h0] at hL
    by_cases hlt : t < Z
    · rw [if_pos hlt] at hL
      have hZn := h2 hlt
      refine ⟨?_, .inr ⟨t, Z, by rw [hL]; simp, by rw [hL]; rfl, by rw [hL]; rfl, hlt, by omega, fun i a b => hu i a (by omega), ?_⟩⟩
      · intro i hi'
        rw [hL] at hi' ⊢
        simp at hi'; subst hi'; simp [lo, hi, Lim]; omega
      · intro l hl hle hv
        refine ⟨by rw [hk]; exact less_new t _ hl, n - (t + l.length), by omega, ?_⟩
        have hadd : (fillC st t l).kn = pre (t + l.length) := by
          show addK st.kn t (t + l.length) = _
          rw [hk]; exact add_pre t _ hl
        have hdat : ∀ i, (fillC st t l).dat.getD i 0 = if t ≤ i ∧ i < t + l.length then l.getD (i - t) 0 else st.dat.getD i 0 := fun i => over_getD _ _ _ _ (by have := h.dl; omega)
        have hlen : Z ≤ (fillC st t l).dat.length := by
          show Z ≤ (over st.dat t l).length
          rw [over_len _ _ _ (by have := h.dl; omega)]; exact h.dl
        refine { sz := h.sz, dl := hlen, ph := .inr ⟨t + l.length, hadd, hle, fun _ => hZn, rfl, fun i a => ?_, fun i a b => hu i (by omega) b⟩ }
        rw [hdat]
        by_cases hin : t ≤ i ∧ i < t + l.length
        · rw [if_pos hin, hv _ (by omega)]; congr 1; omega
        · rw [if_neg hin]; exact hd i (by omega)
    · rw [if_neg hlt] at hL
      obtain rfl : t = Z := by omega
      exact ⟨fun i hi' => by rw [hL] at hi'; simp at hi', .inl ⟨hL, hk, hd⟩⟩
end Go.Proofs.Ytnffhlbkigipmaa
