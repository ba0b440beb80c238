/- DERIVED. copy and clear onto a row of the call's own. -/
import Derived.Test.YtnffhlbkigipmaaM
namespace Go.Proofs.Ytnffhlbkigipmaa
open Go.RowKit Flo
/-- News laid over a row from place p on. -/
def over {α : Type} (xs : List α) (p : Nat) (news : List α) : List α := xs.take p ++ news ++ xs.drop (p + news.length)
theorem over_len {α : Type} (xs : List α) (p : Nat) (news : List α) (h : p + news.length ≤ xs.length) : (over xs p news).length = xs.length := by
  simp [over]; omega
theorem over_map {α β : Type} (f : α → β) (xs : List α) (p : Nat) (news : List α) : (over xs p news).map f = over (xs.map f) p (news.map f) := by
  simp [over, List.map_take, List.map_drop]
theorem over_at {α : Type} (xs : List α) (p : Nat) (news : List α) (i : Nat) (h : p + news.length ≤ xs.length) : (over xs p news)[i]? = if p ≤ i ∧ i < p + news.length then news[i - p]? else xs[i]? := by
  unfold over
  by_cases h1 : i < p
  · rw [if_neg (by omega), List.getElem?_append_left (by simp; omega), List.getElem?_append_left (by simp; omega), List.getElem?_take, if_pos h1]
  · by_cases h2 : i < p + news.length
    · rw [if_pos ⟨by omega, h2⟩, List.getElem?_append_left (by simp; omega), List.getElem?_append_right (by simp; omega)]
      congr 1; simp; omega
    · rw [if_neg (by omega), List.getElem?_append_right (by simp; omega), List.getElem?_drop]
      congr 1; simp; omega
/-- The row with news laid over it, and the world with that row: what storing the news there comes to. -/
theorem store_own {w : World} {B g n cap p : Nat} {e : TypeId} {xs news : List Value} (hown : w.ownsRow B e 1 (.slice (some ⟨g, 0, none⟩) n cap) n xs) (hp : p + news.length ≤ n) (h1 : ∀ u ∈ news, u.oneCell' = true) :
    ∃ w', (∀ P : Program, (storeCells ⟨g, p, none⟩ news).run P w = .ok () w') ∧ w'.ownsRow B e 1 (.slice (some ⟨g, 0, none⟩) n cap) n (over xs p news) ∧ w.grownBy w' (some g) := by
  have hx : xs.length = n := by simpa using hown.1
  rcases hown.2 with ⟨h, _⟩ | ⟨g', cap', cur, h, hbg, hg, hnc, hcm, hcs, htake⟩
  · cases h
  · cases h
    simp at hcs htake
    refine ⟨w.setRow g (cur.toList.take p ++ news ++ cur.toList.drop (p + news.length)).toArray, fun P => ?_, ⟨by simp [over_len xs p news (by omega), hx], .inr ⟨g, cap, _, rfl, hbg, setRow_heap w g cur _ e _ hg, hnc, hcm, ?_, ?_⟩⟩, ⟨rfl, rfl, rfl, by simp, fun k _ hk => setRow_other w g k _ (fun e => hk (by rw [e]))⟩⟩
    · have := run_storeCells_at P g p e news 0 cur w hg (by simp; omega) h1
      simpa using this
    · simp at hcs ⊢; omega
    · subst htake
      simp only [Nat.mul_one, over]
      apply List.ext_getElem?
      intro i
      by_cases hi : i < n
      · rw [List.getElem?_take, if_pos hi]
        by_cases h1 : i < p
        · rw [List.getElem?_append_left (by simp; omega), List.getElem?_append_left (by simp; omega), List.getElem?_append_left (by simp; omega), List.getElem?_append_left (by simp; omega), List.getElem?_take, List.getElem?_take, if_pos h1, if_pos h1, List.getElem?_take, if_pos hi]
        · by_cases h2 : i < p + news.length
          · rw [List.getElem?_append_left (by simp; omega), List.getElem?_append_right (by simp; omega), List.getElem?_append_left (by simp; omega), List.getElem?_append_right (by simp; omega)]
            congr 1; simp; omega
          · rw [List.getElem?_append_right (by simp; omega), List.getElem?_append_right (by simp; omega), List.getElem?_drop, List.getElem?_drop, List.getElem?_take, if_pos (by simp; omega)]
            congr 1; simp; omega
      · rw [List.getElem?_eq_none (by simp; omega), List.getElem?_eq_none (by simp; omega)]
theorem copy_own {w : World} {B g n cap p d c1 c2 : Nat} {xs news : List Value} {ad : Addr} (hown : w.ownsRow B 5 1 (.slice (some ⟨g, 0, none⟩) n cap) n xs) (hp : p + news.length ≤ n) (h1 : ∀ u ∈ news, u.oneCell' = true)
    (hd : news.length ≤ d) (hsrc : ∀ j v, news[j]? = some v → w.cell? (ad.add j) = some v) :
    ∃ w', (∀ ty, (Builtin.copy_ #[23, 23] ty #[.slice (some ⟨g, p, none⟩) d c1, .slice (some ad) news.length c2]).run Try.prog w = .ok (goInt news.length) w') ∧ w'.ownsRow B 5 1 (.slice (some ⟨g, 0, none⟩) n cap) n (over xs p news) ∧ w.grownBy w' (some g) := by
  obtain ⟨w', hs, ho, hg⟩ := store_own hown hp h1
  refine ⟨w', fun ty => ?_, ho, hg⟩
  obtain ⟨i0, hi, hz0, hz1, hz2⟩ := info_parts Try.info5
  have hl := run_loadCells_list (P := Try.prog) w ad news hsrc
  have hst := hs Try.prog
  have hmin : Nat.min news.length d = news.length := Nat.min_eq_left hd
  simp [Builtin.copy_, run_underlying Try.underlying23, Builtin.lenOf, Builtin.firstCells, sizeOf, typeInfo, hi, hz1, hmin, hl, hst]
theorem clear_own {w : World} {B g n cap p q c1 : Nat} {xs : List Value} (hown : w.ownsRow B 5 1 (.slice (some ⟨g, 0, none⟩) n cap) n xs) (hp : p + q ≤ n) (hq : 0 < q) :
    ∃ w', (∀ ty, (Builtin.clear_ #[23] ty #[.slice (some ⟨g, p, none⟩) q c1]).run Try.prog w = .ok (.tuple #[]) w') ∧ w'.ownsRow B 5 1 (.slice (some ⟨g, 0, none⟩) n cap) n (over xs p (List.replicate q (.int .u8 0))) ∧ w.grownBy w' (some g) := by
  obtain ⟨w', hs, ho, hg⟩ := store_own hown (news := List.replicate q (.int .u8 0)) (by simpa using hp) (by intro v hv; rw [List.eq_of_mem_replicate hv]; rfl)
  refine ⟨w', fun ty => ?_, ho, hg⟩
  obtain ⟨i0, hi, hz0, hz1, hz2⟩ := info_parts Try.info5
  have hst := hs Try.prog
  obtain ⟨q, rfl⟩ : ∃ m, q = m + 1 := ⟨q - 1, by omega⟩
  simp [Builtin.clear_, run_underlying Try.underlying23, zeroValue, typeInfo, hi, hz0, cells_u8, zeroCells_u8, hst]
end Go.Proofs.Ytnffhlbkigipmaa
