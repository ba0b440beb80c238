/- DERIVED. slices.SortFunc on at most four stretches. -/
import Derived.Test.YtnffhlbkigipmaaD
namespace Go.Proofs.Ytnffhlbkigipmaa
open Go.RowKit Flo
def SomeI (w : World) (e : Ending) (w' : World) : Prop := ∃ r : Int, e = .returned (.int .i64 r) ∧ w = w'
set_option maxRecDepth 1000000 in
set_option maxHeartbeats 400000 in
theorem len64_0 (w : World) : Calls Try.prog 51 #[.int .u64 0] w (SomeI w) := by
  go_enter Try.func51, Try.ntmps51
  go_wp2
  go_ret
  exact ⟨_, rfl, rfl⟩
set_option maxRecDepth 1000000 in
set_option maxHeartbeats 400000 in
theorem len64_1 (w : World) : Calls Try.prog 51 #[.int .u64 1] w (SomeI w) := by
  go_enter Try.func51, Try.ntmps51
  go_wp2
  go_ret
  exact ⟨_, rfl, rfl⟩
set_option maxRecDepth 1000000 in
set_option maxHeartbeats 400000 in
theorem len64_2 (w : World) : Calls Try.prog 51 #[.int .u64 2] w (SomeI w) := by
  go_enter Try.func51, Try.ntmps51
  go_wp2
  go_ret
  exact ⟨_, rfl, rfl⟩
set_option maxRecDepth 1000000 in
set_option maxHeartbeats 400000 in
theorem len64_3 (w : World) : Calls Try.prog 51 #[.int .u64 3] w (SomeI w) := by
  go_enter Try.func51, Try.ntmps51
  go_wp2
  go_ret
  exact ⟨_, rfl, rfl⟩
set_option maxRecDepth 1000000 in
set_option maxHeartbeats 400000 in
theorem len64_4 (w : World) : Calls Try.prog 51 #[.int .u64 4] w (SomeI w) := by
  go_enter Try.func51, Try.ntmps51
  go_wp2
  go_ret
  exact ⟨_, rfl, rfl⟩
theorem len64_small (n : Nat) (h : n < 5) (w : World) : Calls Try.prog 51 #[.int .u64 n] w (SomeI w) := by
  match n, h with
  | 0, _ => exact len64_0 w
  | 1, _ => exact len64_1 w
  | 2, _ => exact len64_2 w
  | 3, _ => exact len64_3 w
  | 4, _ => exact len64_4 w
set_option maxRecDepth 100000 in
set_option maxHeartbeats 400000 in
theorem len_small (n : Nat) (h : n < 5) (w : World) : Calls Try.prog 39 #[.int .u64 n] w (SomeI w) := by
  go_enter Try.func39, Try.ntmps39
  go_wp2_with ((with_reducible refine (len64_small _ h _).mono ?_); rintro e w' ⟨r, rfl, rfl⟩)
  go_ret
  exact ⟨_, rfl, rfl⟩
theorem isort_call {base : Nat} {v : Value} {L : List (Nat × Nat)} {w : World} (hL : Lims L) (hl : L.length ≤ 4) (hn : L ≠ []) (hown : w.ownsRow base 52 1 v L.length (zcs L)) :
    Calls Try.prog 42 #[v, .int .i64 0, .int .i64 L.length, .func (.func 35) #[] #[]] w fun e w' =>
      e = .returned (.tuple #[]) ∧ w'.ownsRow base 52 1 v L.length (zcs (isort (L.length - 1) L)) ∧ Kp v.ownBlock.toList w w' := by
  rcases hown.2 with ⟨_, h0⟩ | ⟨g, cap, cur, rfl, r⟩
  · exact absurd (by simpa using h0) hn
  · exact isort_any base g cap L w hL (by omega) hown
set_option maxRecDepth 100000 in
set_option maxHeartbeats 400000 in
theorem pdq_small {base : Nat} {v : Value} {L : List (Nat × Nat)} {w : World} (lim : Int) (hL : Lims L) (hl : L.length ≤ 4) (hn : L ≠ []) (hown : w.ownsRow base 52 1 v L.length (zcs L)) :
    Calls Try.prog 38 #[v, .int .i64 0, .int .i64 L.length, .int .i64 lim, .func (.func 35) #[] #[]] w fun e w' =>
      e = .returned (.tuple #[]) ∧ w'.ownsRow base 52 1 v L.length (zcs (isort (L.length - 1) L)) ∧ Kp v.ownBlock.toList w w' := by
  have HL := hid hL
  have HO := hid hown
  have HN := hid hn
  clear hL hown hn
  go_enter Try.func38, Try.ntmps38
  go_wp2
  refine wp_loop_once ?_
  go_wp2_with ((with_reducible refine (isort_call HL.out (by omega) HN.out HO.out).mono ?_); rintro e w' ⟨rfl, ho, hk⟩; have HO2 := hid ho; have HK2 := hid hk; clear ho hk)
  refine bodyPost_ret (results_none rfl _ _ _) rfl ?_
  exact ⟨rfl, HO2.out, HK2.out⟩
set_option maxRecDepth 100000 in
set_option maxHeartbeats 400000 in
theorem sortFunc_small {base : Nat} {v : Value} {L : List (Nat × Nat)} {w : World} (hL : Lims L) (hl : L.length ≤ 4) (hn : L ≠ []) (hown : w.ownsRow base 52 1 v L.length (zcs L)) :
    Calls Try.prog 34 #[v, .func (.func 35) #[] #[]] w fun e w' =>
      e = .returned (.tuple #[]) ∧ w'.ownsRow base 52 1 v L.length (zcs (isort (L.length - 1) L)) ∧ Kp v.ownBlock.toList w w' := by
  have HO := hid hown
  have HL := hid hL
  obtain ⟨g, cap, rfl⟩ : ∃ g cap, v = .slice (some ⟨g, 0, none⟩) L.length cap := by
    rcases hown.2 with ⟨_, h0⟩ | ⟨g, cap, cur, rfl, r⟩
    · exact absurd (by simpa using h0) hn
    · exact ⟨_, _, rfl⟩
  have HN := hid hn
  clear hL hown hn
  go_enter Try.func34, Try.ntmps34
  go_wp2_with (first
    | ((with_reducible refine (len_small _ (by omega) _).mono ?_); rintro e w' ⟨r, rfl, rfl⟩)
    | ((with_reducible refine (pdq_small _ HL.out hl HN.out HO.out).mono ?_); rintro e w' ⟨rfl, ho, hk⟩; have HO2 := hid ho; have HK2 := hid hk; clear ho hk))
  go_end0
  exact ⟨rfl, HO2.out, HK2.out⟩
end Go.Proofs.Ytnffhlbkigipmaa
