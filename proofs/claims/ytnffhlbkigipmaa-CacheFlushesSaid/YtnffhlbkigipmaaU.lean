/- DERIVED. Valid. -/
import Derived.Test.YtnffhlbkigipmaaS
namespace Go.Proofs.Ytnffhlbkigipmaa
open Go.RowKit Flo
theorem clock_small (n : Int) (h0 : 0 ≤ n) (h1 : n ≤ 1000) (w : World) : Calls Try.prog 18 #[.int .i64 n] w fun e w' => e = .returned (.int .i64 n) ∧ w' = w :=
  (clock_any n w).mono fun _ _ ⟨he, hw⟩ => ⟨by rw [he, show max 0 (min n 1099511627776) = n from by omega], hw.symm⟩
section
variable {w : World} {B c : Nat} {st : CS} {vd vk vp : Value} {ps : List Pc}
set_option maxRecDepth 100000 in
set_option maxHeartbeats 400000 in
theorem valid_yes (n s : Int) (h : CRep w B c st vd vk vp ps) (hm : st.mode = 2) (hs : st.since = s) (s0 : 0 ≤ s) (s1 : s ≤ 1000) (h0 : 0 ≤ n) (h1 : n ≤ 1000) (hlt : n - s < 16) :
    Calls Try.prog 16 #[cptr c, .int .i64 1, .int .i64 n] w (DrewRet w (.bool true)) := by
  have c0 := h.c0
  have c1 := h.c1
  rw [hm] at c0
  rw [hs] at c1
  clear h hm hs
  go_enter Try.func16, Try.ntmps16
  go_wp2
  go_quiet ((go_at_call 18; exact Calls.quiet_of_same (clock_small _ h0 h1 _)))
  go_wp2
  go_ret
  exact ⟨rfl, nq, rfl⟩
set_option maxRecDepth 100000 in
set_option maxHeartbeats 400000 in
theorem valid_no (n s : Int) (h : CRep w B c st vd vk vp ps) (hm : st.mode = 2) (hs : st.since = s) (s0 : 0 ≤ s) (s1 : s ≤ 1000) (h0 : 0 ≤ n) (h1 : n ≤ 1000) (hlt : 16 ≤ n - s) :
    Calls Try.prog 16 #[cptr c, .int .i64 1, .int .i64 n] w (DrewRet w (.bool false)) := by
  have c0 := h.c0
  have c1 := h.c1
  rw [hm] at c0
  rw [hs] at c1
  have hd : decide (n - s < 16) = false := by simp; omega
  clear h hm hs
  go_enter Try.func16, Try.ntmps16
  go_wp2
  go_quiet ((go_at_call 18; exact Calls.quiet_of_same (clock_small _ h0 h1 _)))
  go_wp2
  go_ret
  exact ⟨rfl, nq, rfl⟩
end
end Go.Proofs.Ytnffhlbkigipmaa
