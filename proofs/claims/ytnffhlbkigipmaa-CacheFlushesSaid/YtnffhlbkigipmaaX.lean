/- DERIVED. Where the filling begins: plain law. -/
import Derived.Test.YtnffhlbkigipmaaW
namespace Go.Proofs.Ytnffhlbkigipmaa
open Go.RowKit Flo
def S0 (n : Nat) : CS := leaseC cs0 0 n
theorem S0_kn (n : Nat) : (S0 n).kn = [] := rfl
theorem S0_dat (n : Nat) : (S0 n).dat = List.replicate n 0 := by simp [S0, leaseC, clipC, growC, forgot, cs0]
theorem S0_size (n : Nat) : (S0 n).size = n := rfl
theorem S0_mode (n : Nat) : (S0 n).mode = 2 := rfl
theorem S0_dirty (n : Nat) : (S0 n).dirty = [] := rfl
/-- What is read at last: what was written, else what is filled in, else nothing. -/
def Wf (n f : Nat) (l : List Int) (T : Nat → Int) (i : Nat) : Int := if 0 < l.length ∧ f ≤ i ∧ i < f + l.length then l.getD (i - f) 0 else if i < n then T i else 0
theorem FI.start0 (n f : Nat) (T : Nat → Int) : FI n n (Wf n f [] T) T (S0 n) n :=
  { sz := rfl, dl := by rw [S0_dat]; simp, ph := .inr ⟨0, rfl, by omega, fun _ => rfl, rfl, fun i h => by omega, fun i _ h => by simp [Wf, h]⟩ }
theorem gap_kn (n f m : Nat) : (gapC (growC (S0 n) m) f).kn = if n < f then [(n, f)] else [] := by
  unfold gapC
  show (if (S0 n).size < f then _ else _ : CS).kn = _
  rw [S0_size]
  split
  · exact add_nil _ _
  · rfl
theorem gap_ok (n f m : Nat) (hf : f < 2000) : Gds (gapC (growC (S0 n) m) f).kn ∧ (gapC (growC (S0 n) m) f).kn.length ≤ 3 := by
  rw [gap_kn]
  split
  · exact ⟨gds_of_snd (snd_one (by assumption) (by omega)), by simp⟩
  · exact ⟨gds_of_snd snd_nil, by simp⟩
theorem FI.start1 (n f : Nat) (l : List Int) (T : Nat → Int) (hl : 0 < l.length) : FI n (max n (f + l.length)) (Wf n f l T) T (writeC (S0 n) f l) (min n f + (n - (f + l.length))) ∨
    FI n (max n (f + l.length)) (Wf n f l T) T (writeC (S0 n) f l) (n - (f + l.length)) := by
  have hkn : (writeC (S0 n) f l).kn = [(min n f, f + l.length)] := by
    show addK (gapC (growC (S0 n) (f + l.length)) f).kn f (f + l.length) = _
    rw [gap_kn]
    split
    · rw [add_on _ _ _ (by assumption) (by omega)]; congr 2; omega
    · rw [add_nil]; congr 2; omega
  have hg1 : (growC (S0 n) (f + l.length)).dat.length = max n (f + l.length) := by simp [growC, S0_dat]; omega
  have hgz : ∀ i, (growC (S0 n) (f + l.length)).dat.getD i 0 = 0 := by
    intro i
    simp only [growC, S0_dat, List.getD]
    rw [List.replicate_append_replicate]
    rw [List.getElem?_replicate]; split <;> rfl
  have hg2 : (gapC (growC (S0 n) (f + l.length)) f).dat.length = max n (f + l.length) ∧ ∀ i, (gapC (growC (S0 n) (f + l.length)) f).dat.getD i 0 = 0 := by
    unfold gapC
    by_cases h : n < f
    · rw [if_pos (show (growC (S0 n) (f + l.length)).size < f from h)]
      have hle : n + (List.replicate (f - n) (0 : Int)).length ≤ (growC (S0 n) (f + l.length)).dat.length := by simp; omega
      refine ⟨(over_len _ _ _ hle).trans hg1, fun i => ?_⟩
      show (over (growC (S0 n) (f + l.length)).dat n (List.replicate (f - n) 0)).getD i 0 = 0
      rw [over_getD _ _ _ _ hle]
      split
      · simp only [List.getD, List.getElem?_replicate]; split <;> rfl
      · exact hgz i
    · rw [if_neg (show ¬ (growC (S0 n) (f + l.length)).size < f from h)]
      exact ⟨hg1, hgz⟩
  have hle : f + l.length ≤ (gapC (growC (S0 n) (f + l.length)) f).dat.length := by rw [hg2.1]; omega
  have hdl : (writeC (S0 n) f l).dat.length = max n (f + l.length) := (over_len _ _ _ hle).trans hg2.1
  have hdat : ∀ i, min n f ≤ i → i < f + l.length → (writeC (S0 n) f l).dat.getD i 0 = Wf n f l T i := by
    intro i h1 h2
    show (over (gapC (growC (S0 n) (f + l.length)) f).dat f l).getD i 0 = _
    rw [over_getD _ _ _ _ hle]
    unfold Wf
    by_cases h3 : f ≤ i
    · rw [if_pos ⟨h3, h2⟩, if_pos ⟨hl, h3, h2⟩]
    · rw [if_neg (by omega), if_neg (by omega), if_neg (by omega), hg2.2]
  have hunk : ∀ i, i < min n f ∨ f + l.length ≤ i → i < n → Wf n f l T i = T i := by
    intro i h1 h2
    unfold Wf
    rw [if_neg (by omega), if_pos h2]
  have hsz : (writeC (S0 n) f l).size = max n (f + l.length) := by
    show max (gapC (growC (S0 n) (f + l.length)) f).size (f + l.length) = _
    unfold gapC; split <;> rfl
  by_cases hA : min n f = 0
  · right
    refine { sz := hsz, dl := by omega, ph := .inr ⟨f + l.length, ?_, by omega, by omega, rfl, fun i h => hdat i (by omega) h, fun i h1 h2 => hunk i (.inr h1) h2⟩ }
    rw [hkn, hA, pre_pos (by omega)]
  · left
    refine { sz := hsz, dl := by omega, ph := .inl ⟨0, min n f, f + l.length, by rw [hkn]; rfl, by omega, by omega, by omega, by omega, by omega, by omega, fun i h => hdat i (by omega) (by omega), fun i _ h1 h2 => hunk i h1 h2⟩ }
theorem FI.start (n f : Nat) (l : List Int) (T : Nat → Int) (hl : 0 < l.length) : ∃ r, r ≤ n ∧ FI n (max n (f + l.length)) (Wf n f l T) T (writeC (S0 n) f l) r := by
  rcases FI.start1 n f l T hl with h | h
  · exact ⟨_, by omega, h⟩
  · exact ⟨_, by omega, h⟩
end Go.Proofs.Ytnffhlbkigipmaa
