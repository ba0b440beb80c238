/- DERIVED. Whole numbers below 2^53 as words of float64: how they are read, compared, cut and turned back. -/
import Derived.Laws.FloatArith
namespace Go.Proofs.Ytnffhlbkigipmaa.Flo
open Ieee

/-- The word of a whole number. -/
def fb (n : Nat) : Nat := double.nearest false n 0

theorem fb_zero : fb 0 = 0 := by decide

theorem log_lt {n : Nat} (h : n < 2 ^ 53) : n.log2 ≤ 52 := by
  by_cases h0 : n = 0
  · subst h0; simp
  · have := (Nat.log2_lt h0).2 h
    omega

theorem cut_zero_drop (way : Toward) (n : Nat) : way.cut false n 0 = n := by
  cases way <;> simp [Toward.cut, Nat.mod_one]

/-- the significand -/
def sg (n : Nat) : Nat := n * 2 ^ (52 - n.log2)

theorem sg_lo {n : Nat} (h0 : n ≠ 0) (h : n < 2 ^ 53) : 2 ^ 52 ≤ sg n := by
  have hl := log_lt h
  have h1 := Nat.log2_self_le h0
  have : 2 ^ 52 = 2 ^ n.log2 * 2 ^ (52 - n.log2) := by rw [← Nat.pow_add]; congr 1; omega
  rw [this]
  exact Nat.mul_le_mul_right _ h1

theorem sg_hi {n : Nat} (h : n < 2 ^ 53) : sg n < 2 ^ 53 := by
  have hl := log_lt h
  have h1 : n < 2 ^ (n.log2 + 1) := Nat.lt_log2_self
  have : 2 ^ 53 = 2 ^ (n.log2 + 1) * 2 ^ (52 - n.log2) := by rw [← Nat.pow_add]; congr 1; omega
  rw [this]
  exact Nat.mul_lt_mul_of_pos_right h1 (Nat.two_pow_pos _)

theorem fb_pos {n : Nat} (h0 : n ≠ 0) (h : n < 2 ^ 53) : fb n = (n.log2 + 1022) * 2 ^ 52 + sg n := by
  have hl := log_lt h
  unfold fb Format.nearest
  rw [if_neg h0]
  have e1 : max ((0 : Int) + n.log2 - double.fractionBits) double.leastPlace = (n.log2 : Int) - 52 := by
    simp only [double, Format.leastPlace]; omega
  simp only [e1]
  have e2 : ((n.log2 : Int) - 52 - 0).toNat = 0 := by omega
  have e3 : ((0 : Int) - ((n.log2 : Int) - 52)).toNat = 52 - n.log2 := by omega
  have e4 : ((n.log2 : Int) - 52 - double.leastPlace).toNat = n.log2 + 1022 := by simp only [double, Format.leastPlace]; omega
  rw [e2, e3, e4, cut_zero_drop, Nat.shiftLeft_eq]
  have hb : double.binade = 2 ^ 52 := rfl
  have hi : double.infRung = 2047 * 2 ^ 52 := rfl
  rw [hb, hi]
  have := sg_hi h
  unfold sg at this ⊢
  simp only [Format.word]
  rw [Nat.min_eq_left]
  · rfl
  · generalize n * 2 ^ (52 - n.log2) = z at *
    omega

theorem read_pos {n : Nat} (h0 : n ≠ 0) (h : n < 2 ^ 53) : double.read (fb n) = .number false (sg n) ((n.log2 : Int) - 52) := by
  have hl := log_lt h
  have l1 := sg_lo h0 h
  have l2 := sg_hi h
  rw [fb_pos h0 h]
  unfold Format.read
  have hs : double.signWeight = 2 ^ 63 := rfl
  have hb : double.binade = 2 ^ 52 := rfl
  have hi : double.infRung = 2047 * 2 ^ 52 := rfl
  rw [hs, hb, hi]
  generalize sg n = z at *
  have e1 : ((n.log2 + 1022) * 2 ^ 52 + z) / 2 ^ 63 = 0 := by omega
  have e2 : ((n.log2 + 1022) * 2 ^ 52 + z) % 2 ^ 63 = (n.log2 + 1022) * 2 ^ 52 + z := by omega
  simp only [e1, e2]
  rw [if_neg (by omega), if_pos (by omega)]
  have e3 : ((n.log2 + 1022) * 2 ^ 52 + z) % 2 ^ 52 = z - 2 ^ 52 := by omega
  have e4 : ((n.log2 + 1022) * 2 ^ 52 + z) / 2 ^ 52 = n.log2 + 1023 := by omega
  rw [e3, e4]
  have e5 : double.leastPlace = -1074 := rfl
  rw [e5]
  have : (2 ^ 52 + (z - 2 ^ 52) : Nat) = z := by omega
  have e6 : (-1074 : Int) + ((n.log2 + 1023 - 1 : Nat) : Int) = (n.log2 : Int) - 52 := by omega
  rw [this, e6]
  rfl

theorem read_zero : double.read (fb 0) = .number false 0 (-1074) := by rw [fb_zero]; rfl

theorem order_pos {m n : Nat} (m0 : m ≠ 0) (n0 : n ≠ 0) (hm : m < 2 ^ 53) (hn : n < 2 ^ 53) : double.order (fb m) (fb n) = some (compare m n) := by
  have l1 := log_lt hm
  have l2 := log_lt hn
  unfold Format.order
  rw [read_pos m0 hm, read_pos n0 hn]
  simp only [Datum.order, signed, Bool.false_eq_true, if_false, Nat.shiftLeft_eq, sg]
  have key : ∀ (c : Nat), 2 ^ c > 0 := fun c => Nat.two_pow_pos c
  have hcmp : ∀ (x y k : Nat), compare ((x * 2 ^ k : Nat) : Int) ((y * 2 ^ k : Nat) : Int) = compare x y := by
    intro x y k
    simp only [compare, compareOfLessAndEq]
    have hk := Nat.two_pow_pos k
    by_cases h1 : x < y
    · have : x * 2 ^ k < y * 2 ^ k := Nat.mul_lt_mul_of_pos_right h1 hk
      rw [if_pos (by omega), if_pos h1]
    · by_cases h2 : x = y
      · subst h2; simp
      · have : y * 2 ^ k < x * 2 ^ k := Nat.mul_lt_mul_of_pos_right (by omega) hk
        rw [if_neg (by omega), if_neg (by omega), if_neg h1, if_neg h2]
  by_cases hle : m.log2 ≤ n.log2
  · have e1 : ((m.log2 : Int) - 52 - min ((m.log2 : Int) - 52) ((n.log2 : Int) - 52)).toNat = 0 := by omega
    have e2 : ((n.log2 : Int) - 52 - min ((m.log2 : Int) - 52) ((n.log2 : Int) - 52)).toNat = n.log2 - m.log2 := by omega
    rw [e1, e2]
    have e3 : n * 2 ^ (52 - n.log2) * 2 ^ (n.log2 - m.log2) = n * 2 ^ (52 - m.log2) := by
      rw [Nat.mul_assoc, ← Nat.pow_add]; congr 2; omega
    rw [e3, Nat.pow_zero, Nat.mul_one, hcmp]
  · have e1 : ((m.log2 : Int) - 52 - min ((m.log2 : Int) - 52) ((n.log2 : Int) - 52)).toNat = m.log2 - n.log2 := by omega
    have e2 : ((n.log2 : Int) - 52 - min ((m.log2 : Int) - 52) ((n.log2 : Int) - 52)).toNat = 0 := by omega
    rw [e1, e2]
    have e3 : m * 2 ^ (52 - m.log2) * 2 ^ (m.log2 - n.log2) = m * 2 ^ (52 - n.log2) := by
      rw [Nat.mul_assoc, ← Nat.pow_add]; congr 2; omega
    rw [e3, Nat.pow_zero, Nat.mul_one, hcmp]

theorem order_fb {m n : Nat} (hm : m < 2 ^ 53) (hn : n < 2 ^ 53) : double.order (fb m) (fb n) = some (compare m n) := by
  by_cases m0 : m = 0
  · subst m0
    by_cases n0 : n = 0
    · subst n0; rw [fb_zero]; decide
    · unfold Format.order
      rw [read_pos n0 hn, read_zero]
      have h1 := sg_lo n0 hn
      simp only [Datum.order, signed, Bool.false_eq_true, if_false, Nat.shiftLeft_eq, Nat.zero_mul]
      have : compare 0 n = .lt := by simp [compare, compareOfLessAndEq]; omega
      rw [this]
      have hp : 0 < sg n * 2 ^ ((n.log2 : Int) - 52 - min (-1074) ((n.log2 : Int) - 52)).toNat := Nat.mul_pos (by omega) (Nat.two_pow_pos _)
      generalize sg n * 2 ^ ((n.log2 : Int) - 52 - min (-1074) ((n.log2 : Int) - 52)).toNat = z at *
      simp only [compare, compareOfLessAndEq]
      rw [if_pos (by omega)]
  · by_cases n0 : n = 0
    · subst n0
      unfold Format.order
      rw [read_pos m0 hm, read_zero]
      have h1 := sg_lo m0 hm
      simp only [Datum.order, signed, Bool.false_eq_true, if_false, Nat.shiftLeft_eq, Nat.zero_mul]
      have : compare m 0 = .gt := by simp [compare, compareOfLessAndEq]; omega
      rw [this]
      have hp : 0 < sg m * 2 ^ ((m.log2 : Int) - 52 - min ((m.log2 : Int) - 52) (-1074)).toNat := Nat.mul_pos (by omega) (Nat.two_pow_pos _)
      generalize sg m * 2 ^ ((m.log2 : Int) - 52 - min ((m.log2 : Int) - 52) (-1074)).toNat = z at *
      simp only [compare, compareOfLessAndEq]
      rw [if_neg (by omega), if_neg (by omega)]
    · exact order_pos m0 n0 hm hn

theorem integral_fb {n : Nat} (hn : n < 2 ^ 53) : double.write ((double.read (fb n)).integral .zero) = fb n := by
  by_cases n0 : n = 0
  · subst n0; rw [fb_zero]; decide
  · have l1 := log_lt hn
    rw [read_pos n0 hn]
    simp only [Datum.integral]
    have e1 : ((n.log2 : Int) - 52).toNat = 0 := by omega
    have e2 : (-((n.log2 : Int) - 52)).toNat = 52 - n.log2 := by omega
    rw [e1, e2, Nat.shiftLeft_zero]
    have e3 : Toward.zero.cut false (sg n) (52 - n.log2) = n := by
      have h1 := sg_lo n0 hn
      have h2 : 52 ≤ (sg n).log2 := by
        rcases Nat.lt_or_ge (sg n).log2 52 with h | h
        · have := (Nat.log2_lt (by omega)).1 h; omega
        · exact h
      simp only [Toward.cut]
      rw [Nat.min_eq_left (by omega), Nat.shiftLeft_eq, Nat.one_mul]
      simp only [Bool.toNat_false, Nat.add_zero]
      unfold sg
      exact Nat.mul_div_cancel _ (Nat.two_pow_pos _)
    rw [e3]
    rfl

theorem toInt_fb {n : Nat} (hn : n < 2 ^ 53) : (double.read (fb n)).toInt .zero = some (n : Int) := by
  by_cases n0 : n = 0
  · subst n0; rw [fb_zero]; decide
  · have l1 := log_lt hn
    rw [read_pos n0 hn]
    simp only [Datum.toInt, Datum.integral]
    have e1 : ((n.log2 : Int) - 52).toNat = 0 := by omega
    have e2 : (-((n.log2 : Int) - 52)).toNat = 52 - n.log2 := by omega
    rw [e1, e2, Nat.shiftLeft_zero]
    have e3 : Toward.zero.cut false (sg n) (52 - n.log2) = n := by
      have h1 := sg_lo n0 hn
      have h2 : 52 ≤ (sg n).log2 := by
        rcases Nat.lt_or_ge (sg n).log2 52 with h | h
        · have := (Nat.log2_lt (by omega)).1 h; omega
        · exact h
      simp only [Toward.cut]
      rw [Nat.min_eq_left (by omega), Nat.shiftLeft_eq, Nat.one_mul]
      simp only [Bool.toNat_false, Nat.add_zero]
      unfold sg
      exact Nat.mul_div_cancel _ (Nat.two_pow_pos _)
    rw [e3]
    simp [signed]

theorem ofInt_fb (n : Nat) : floatOfInt .f64 (n : Int) = fb n := by
  simp only [floatOfInt, FloatKind.nearest, FloatKind.encode, Format.write, fb]
  have : ((n : Int) < 0) = False := by simp
  simp only [this, decide_false, Int.natAbs_natCast]
  rfl

theorem max40 : fb 1099511627776 = 4787326403894837248 := by decide +kernel
attribute [irreducible] fb

end Go.Proofs.Ytnffhlbkigipmaa.Flo
