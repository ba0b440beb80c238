/- DERIVED. Walks of the plain functions of reach and cache: stretches of whole numbers below 2^40. -/
import Derived.Test.YtnffhlbkigipmaaRows
import Derived.Test.YtnffhlbkigipmaaFlo
import Derived.WalkKit
import Derived.WalkSpells
import Derived.WalkLawsBesides
namespace Go.Proofs.Ytnffhlbkigipmaa
open Go.RowKit Flo
theorem ret_int {k : IntKind} {a b : Int} (h : a = b) : Ending.returned (.int k a) = .returned (.int k b) := by rw [h]
/-- A stretch. -/
abbrev zc (a b : Nat) : Value := .complex .f64 (fb a) (fb b)
/-- Numbers that floats of stretches stand for. -/
def Lim (n : Nat) : Prop := n ≤ 1099511627776
theorem Lim.lt {n : Nat} (h : Lim n) : n < 2 ^ 53 := Nat.lt_of_le_of_lt h (by decide)

theorem cmp_lt (m n : Nat) : (some (compare m n) == some Ordering.lt) = decide (m < n) := by
  simp only [compare, compareOfLessAndEq]; split
  · simp [*]
  · split <;> simp [*]
theorem cmp_gt (m n : Nat) : (some (compare m n) == some Ordering.gt) = decide (n < m) := by
  simp only [compare, compareOfLessAndEq]; split
  · simp; omega
  · split
    · simp; omega
    · simp; omega
theorem cmp_eq (m n : Nat) : (some (compare m n) == some Ordering.eq) = decide (m = n) := by
  simp only [compare, compareOfLessAndEq]; split
  · simp; omega
  · split
    · simp; omega
    · simp; omega
section
variable {m n : Nat} (hm : Lim m) (hn : Lim n)
include hm hn
theorem ord_fb : FloatKind.f64.format.order (fb m) (fb n) = some (compare m n) := order_fb hm.lt hn.lt
@[go_sem] theorem ord_lt : (FloatKind.f64.format.order (fb m) (fb n) == some .lt) = decide (m < n) := by rw [ord_fb hm hn, cmp_lt]
@[go_sem] theorem ord_gt : (FloatKind.f64.format.order (fb m) (fb n) == some .gt) = decide (n < m) := by rw [ord_fb hm hn, cmp_gt]
@[go_sem] theorem ord_eq : (FloatKind.f64.format.order (fb m) (fb n) == some .eq) = decide (m = n) := by rw [ord_fb hm hn, cmp_eq]
@[go_sem] theorem ord_ne : (FloatKind.f64.format.order (fb m) (fb n) != some .eq) = !decide (m = n) := by rw [bne, ord_eq hm hn]
end
theorem lim0 : Lim 0 := by unfold Lim; omega
theorem limM : Lim 1099511627776 := Nat.le_refl _

theorem toIntegral_number (x : Nat) (sg : Bool) (m : Nat) (e : Int) (h : FloatKind.f64.decode x = .number sg m e) :
    Extern.MathFloor.toIntegral "math.archTrunc" .zero #[.float .f64 x] = pure (.float .f64 (FloatKind.f64.encode ((Ieee.Datum.number sg m e).integral .zero))) := by
  have : ∃ F : Bool → Nat → Sem Value, Extern.MathFloor.toIntegral "math.archTrunc" .zero #[.float .f64 x] =
      Extern.MathFloor.toIntegral.match_1 (motive := fun _ => Sem Value) (FloatKind.f64.decode x) F (fun d => pure (.float .f64 (FloatKind.f64.encode (d.integral .zero)))) := ⟨_, rfl⟩
  obtain ⟨F, hF⟩ := this
  rw [hF, h]
theorem archTrunc_run (n : Nat) (h : Lim n) (w : World) : (callFunc 52 #[.float .f64 (fb n)]).run Try.prog w = .ok (.value (.float .f64 (fb n))) w := by
  have h1 := integral_fb h.lt
  have : (callFunc 52 #[.float .f64 (fb n)]).run Try.prog w = (Extern.MathFloor.toIntegral "math.archTrunc" .zero #[.float .f64 (fb n)] >>= fun v => pure (Next.value v)).run Try.prog w := by
    kernel_rfl
  rw [this]
  have h3 : ∀ d, FloatKind.f64.encode d = Ieee.double.write d := fun _ => rfl
  by_cases h0 : n = 0
  · subst h0; rw [toIntegral_number _ _ _ _ read_zero, h3]; rw [read_zero] at h1; rw [h1]; rfl
  · rw [toIntegral_number _ _ _ _ (read_pos h0 h.lt), h3]; rw [read_pos h0 h.lt] at h1; rw [h1]; rfl
set_option maxHeartbeats 400000 in
theorem trunc_fb (n : Nat) (h : Lim n) (w : World) :
    Calls Try.prog 41 #[.float .f64 (fb n)] w fun e w' => e = .returned (.float .f64 (fb n)) ∧ w = w' := by
  have ht := archTrunc_run n h
  go_enter Try.func41, Try.ntmps41
  go_wp2
  go_ret
  exact ⟨rfl, rfl⟩
set_option maxHeartbeats 400000 in
theorem whole_yes (n : Nat) (h : Lim n) (w : World) :
    Calls Try.prog 37 #[.float .f64 (fb n)] w fun e w' => e = .returned (.bool true) ∧ w = w' := by
  have l0 := lim0
  have lM := limM
  have hle : n ≤ 1099511627776 := h
  have a1 : (FloatKind.f64.format.order (fb n) 0 == some .gt || FloatKind.f64.format.order (fb n) 0 == some .eq) = true := by
    rw [← fb_zero, ord_gt h l0, ord_eq h l0]; simp; omega
  have a2 : (FloatKind.f64.format.order (fb n) 4787326403894837248 == some .lt || FloatKind.f64.format.order (fb n) 4787326403894837248 == some .eq) = true := by
    rw [← max40, ord_lt h lM, ord_eq h lM]; simp; omega
  have a3 : (FloatKind.f64.format.order (fb n) (fb n) == some .eq) = true := by rw [ord_eq h h]; simp
  clear hle l0 lM
  go_enter Try.func37, Try.ntmps37
  go_wp2_with (go_at_call 41; refine (trunc_fb _ h _).mono ?_; rintro e w' ⟨rfl, rfl⟩)
  go_ret
  exact ⟨rfl, rfl⟩
set_option maxHeartbeats 400000 in
theorem good_yes (a b : Nat) (h : a < b) (hb : Lim b) (w : World) :
    Calls Try.prog 33 #[zc a b] w fun e w' => e = .returned (.bool true) ∧ w = w' := by
  have ha : Lim a := by unfold Lim at *; omega
  have a3 : (FloatKind.f64.format.order (fb a) (fb b) == some .lt) = true := by rw [ord_lt ha hb]; simp [h]
  go_enter Try.func33, Try.ntmps33
  go_wp2_with (go_at_call 37; refine (whole_yes _ (by assumption) _).mono ?_; rintro e w' ⟨rfl, rfl⟩)
  go_ret
  exact ⟨rfl, rfl⟩

set_option maxHeartbeats 400000 in
theorem make_ok (a b : Int) (h0 : 0 ≤ a) (h : a < b) (hb : b ≤ 1099511627776) (w : World) :
    Calls Try.prog 24 #[.int .i64 a, .int .i64 b] w fun e w' => e = .returned (.tuple #[zc a.toNat b.toNat, .int .i64 0]) ∧ w = w' := by
  have ea : floatOfInt .f64 a = fb a.toNat := by rw [← ofInt_fb]; congr 1; omega
  have eb : floatOfInt .f64 b = fb b.toNat := by rw [← ofInt_fb]; congr 1; omega
  go_enter Try.func24, Try.ntmps24
  go_wp2
  go_ret2
  exact ⟨rfl, rfl⟩
set_option maxHeartbeats 400000 in
theorem make_no (a b : Int) (h : a < 0 ∨ b > 1099511627776 ∨ b ≤ a) (w : World) :
    Calls Try.prog 24 #[.int .i64 a, .int .i64 b] w fun e w' => e = .returned (.tuple #[.complex .f64 0 0, .int .i64 1]) ∧ w = w' := by
  go_enter Try.func24, Try.ntmps24
  by_cases h1 : a < 0
  · go_wp2
    go_ret2
    exact ⟨rfl, rfl⟩
  · by_cases h2 : b > 1099511627776
    · go_wp2
      go_ret2
      exact ⟨rfl, rfl⟩
    · have h3 : b ≤ a := by omega
      clear h
      go_wp2
      go_ret2
      exact ⟨rfl, rfl⟩
theorem conv_fb (a : Nat) (ha : Lim a) (w : World) : (convert 64 3 (.float .f64 (fb a))).run Try.prog w = .ok (.int .i64 a) w := by
  refine run_convert_float_int w 64 3 .f64 .i64 (fb a) a (by kernel_rfl) (by kernel_rfl) ?_
  have h1 : (FloatKind.f64.decode (fb a)).toInt .zero = some (a : Int) := toInt_fb ha.lt
  unfold floatToIntVal
  rw [h1]
  have : IntKind.i64.min ≤ (a : Int) ∧ (a : Int) ≤ IntKind.i64.max := by
    have e1 : IntKind.i64.min = -9223372036854775808 := by decide
    have e2 : IntKind.i64.max = 9223372036854775807 := by decide
    unfold Lim at ha
    rw [e1, e2]; omega
  simp only [this, and_self, if_true]
set_option maxHeartbeats 400000 in
theorem ends_ok (a b : Nat) (h : a < b) (hb : Lim b) (w : World) :
    Calls Try.prog 27 #[zc a b] w fun e w' => e = .returned (.tuple #[.int .i64 a, .int .i64 b, .int .i64 0]) ∧ w = w' := by
  have ha : Lim a := by unfold Lim at *; omega
  have ca := conv_fb a ha
  have cb := conv_fb b hb
  go_enter Try.func27, Try.ntmps27
  go_wp2_with ((with_reducible refine (good_yes _ _ h hb _).mono ?_); rintro e w' ⟨rfl, rfl⟩)
  go_ret3
  exact ⟨rfl, rfl⟩
set_option maxHeartbeats 400000 in
theorem isNaN_no (a : Nat) (ha : Lim a) (w : World) :
    Calls Try.prog 40 #[.float .f64 (fb a)] w fun e w' => e = .returned (.bool false) ∧ w = w' := by
  have h1 : (FloatKind.f64.format.order (fb a) (fb a) != some .eq) = false := by rw [ord_ne ha ha]; simp
  go_enter Try.func40, Try.ntmps40
  go_wp2
  go_ret
  exact ⟨rfl, rfl⟩
set_option maxHeartbeats 400000 in
theorem compare_any (a b : Nat) (ha : Lim a) (hb : Lim b) (w : World) :
    Calls Try.prog 36 #[.float .f64 (fb a), .float .f64 (fb b)] w fun e w' => e = .returned (.int .i64 (if a < b then -1 else if b < a then 1 else 0)) ∧ w = w' := by
  go_enter Try.func36, Try.ntmps36
  go_wp2_with (go_at_call 40; refine (isNaN_no _ (by assumption) _).mono ?_; rintro e w' ⟨rfl, rfl⟩)
  all_goals go_ret
  all_goals exact ⟨ret_int (by simp_all), rfl⟩

set_option maxHeartbeats 400000 in
theorem cmpf_any (a b c d : Nat) (ha : Lim a) (hc : Lim c) (w : World) :
    Calls Try.prog 35 #[zc a b, zc c d] w fun e w' => e = .returned (.int .i64 (if a < c then -1 else if c < a then 1 else 0)) ∧ w = w' := by
  go_enter Try.func35, Try.ntmps35
  go_wp2_with (go_at_call 36; refine (compare_any _ _ ha hc _).mono ?_; rintro e w' ⟨rfl, rfl⟩)
  all_goals go_ret
  all_goals exact ⟨rfl, rfl⟩
end Go.Proofs.Ytnffhlbkigipmaa
