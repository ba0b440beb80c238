/- DERIVED. New, Size, Dirty, forget, part. -/
import Derived.Test.YtnffhlbkigipmaaG
import Derived.Deep.QuietTactic
import Derived.BigQuiet
namespace Go.Proofs.Ytnffhlbkigipmaa
open Go.RowKit Flo
/-- The pointer to a cache. -/
abbrev cptr (c : Nat) : Value := .pointer (some ⟨c, 0, none⟩)
def cs0 : CS := ⟨0, 0, 0, [], [], [], 0⟩
def MadeC (w : World) (e : Ending) (w' : World) : Prop := ∃ c, e = .returned (cptr c) ∧ w.heap.size ≤ c ∧ CRep w' w.heap.size c cs0 (.slice none 0 0) (.slice none 0 0) (.slice none 0 0) [] ∧ Kp [] w w'
set_option maxRecDepth 100000 in
set_option maxHeartbeats 400000 in
theorem new_any (w : World) : Calls Try.prog 5 #[] w (MadeC w) := by
  go_enter Try.func5, Try.ntmps5
  go_wp2
  go_ret
  refine ⟨w.heap.size, rfl, Nat.le_refl _, ?_, (Kp.refl _ _).alloc _⟩
  exact { hB := Nat.le_refl _, blk := heap_alloc_new w _, dat := World.ownsRow_nil _ _ _ _, kn := .inl ⟨rfl, rfl, rfl⟩, row := World.ownsRow_nil _ _ _ _, dy := rfl, pl := fun p hp => by simp at hp, cd := by simp [Value.ownBlock], ck := by simp [Value.ownBlock], cp := by simp [Value.ownBlock], cq := fun p hp => by simp at hp, dk := fun k hk => by simp [Value.ownBlock] at hk, pk := fun k hk => by simp [Value.ownBlock] at hk }
section
variable {w : World} {B c : Nat} {st : CS} {vd vk vp : Value} {ps : List Pc}
set_option maxRecDepth 100000 in
set_option maxHeartbeats 400000 in
theorem size_any (h : CRep w B c st vd vk vp ps) : Calls Try.prog 12 #[cptr c] w fun e w' => e = .returned (.int .i64 st.size) ∧ w = w' := by
  have c2 := h.c2
  clear h
  go_enter Try.func12, Try.ntmps12
  go_wp2
  go_ret
  exact ⟨rfl, rfl⟩
set_option maxRecDepth 100000 in
set_option maxHeartbeats 400000 in
theorem dirty_any (h : CRep w B c st vd vk vp ps) : Calls Try.prog 15 #[cptr c] w fun e w' => e = .returned (.int .i64 ps.length) ∧ w = w' := by
  have c5 := h.c5
  obtain ⟨a, cap, rfl⟩ : ∃ a cap, vp = .slice a ps.length cap := by
    rcases h.row.2 with ⟨h, h0⟩ | ⟨_, _, _, h, _⟩
    · exact ⟨none, 0, by rw [h, h0]⟩
    · exact ⟨_, _, h⟩
  clear h
  go_enter Try.func15, Try.ntmps15
  go_wp2
  go_ret
  exact ⟨rfl, rfl⟩
/-- c.forget() -/
def forgot (st : CS) : CS := { st with kn := [] }
set_option maxRecDepth 100000 in
set_option maxHeartbeats 400000 in
theorem forget_any (h : CRep w B c st vd vk vp ps) : Calls Try.prog 17 #[cptr c] w fun e w' => e = .returned (.tuple #[]) ∧ CRep w' B c (forgot st) vd (.slice none 0 0) vp ps ∧ Kp [c] w w' := by
  have c4 := h.c4
  have f4 := h.fr 4
  have H := hid h
  clear h
  go_enter Try.func17, Try.ntmps17
  go_wp2
  go_end0
  have k : Kp [c] w (w.setCell ⟨c, 4, none⟩ (.slice none 0 0)) := (Kp.refl _ _).setCell (.inl (by simp)) _
  exact ⟨rfl, H.out.set k (heap_setCell_same H.out.blk _) rfl rfl (.inl ⟨rfl, rfl, rfl⟩) (by simp [Value.ownBlock]) (fun g hg => by simp [Value.ownBlock] at hg), k⟩
/-- c.part(at, size) -/
def partF (z a s : Int) : Int × Int := if a < 0 ∨ s < 0 ∨ z ≤ a then (0, 0) else (a, a + min s (z - a))
def DrewRet (w : World) (v : Value) (e : Ending) (w' : World) : Prop := e = .returned v ∧ ∃ n, w' = w.drewN n
set_option maxRecDepth 100000 in
set_option maxHeartbeats 400000 in
theorem part_no (a s : Int) (h : CRep w B c st vd vk vp ps) (hn : a < 0 ∨ s < 0 ∨ st.size ≤ a) : Calls Try.prog 25 #[cptr c, .int .i64 a, .int .i64 s] w (DrewRet w (.tuple #[.int .i64 0, .int .i64 0])) := by
  have c2 := h.c2
  clear h
  by_cases h1 : a < 0
  · clear hn
    go_enter Try.func25, Try.ntmps25
    go_wp2
    go_ret2
    exact ⟨rfl, 0, rfl⟩
  · by_cases h2 : s < 0
    · clear hn
      go_enter Try.func25, Try.ntmps25
      go_wp2
      go_ret2
      exact ⟨rfl, 0, rfl⟩
    · have h3 : (st.size : Int) ≤ a := by omega
      clear hn
      go_enter Try.func25, Try.ntmps25
      go_wp2
      go_ret2
      exact ⟨rfl, 0, rfl⟩
set_option maxRecDepth 100000 in
set_option maxHeartbeats 400000 in
theorem part_yes (a s : Int) (h : CRep w B c st vd vk vp ps) (h1 : 0 ≤ a) (h2 : 0 ≤ s) (h3 : a < st.size) (hz : st.size ≤ 9728) :
    Calls Try.prog 25 #[cptr c, .int .i64 a, .int .i64 s] w (DrewRet w (.tuple #[.int .i64 a, .int .i64 (a + min s (st.size - a))])) := by
  have c2 := h.c2
  clear h
  go_enter Try.func25, Try.ntmps25
  by_cases h4 : s ≤ st.size - a
  · go_wp2
    go_quiet (fail)
    go_wp2
    go_ret2
    exact ⟨by rw [Int.min_eq_left h4]; rfl, nq, rfl⟩
  · have h5 : st.size - a < s := by omega
    clear h4
    go_wp2
    go_quiet (fail)
    go_wp2
    go_ret2
    exact ⟨by rw [Int.min_eq_right (by omega)]; rfl, nq, rfl⟩
end
end Go.Proofs.Ytnffhlbkigipmaa
