/- DERIVED. Missing. -/
import Derived.Test.YtnffhlbkigipmaaL
namespace Go.Proofs.Ytnffhlbkigipmaa
open Go.RowKit Flo
section
variable {w : World} {B c : Nat} {st : CS} {vd vk vp : Value} {ps : List Pc}
/-- Three results, and nothing that was there has changed. -/
def Ret3 (w : World) (a b : Int) (t : Bool) (e : Ending) (w' : World) : Prop := e = .returned (.tuple #[.int .i64 a, .int .i64 b, .bool t]) ∧ Kp [] w w'
def MissP (w : World) (L : List (Nat × Nat)) (e : Ending) (w' : World) : Prop := if L.length = 0 then Ret3 w 0 0 false e w' else Ret3 w (lo L 0) (hi L 0 - lo L 0 : Nat) true e w'
theorem rd_oneZ (w : World) (a b : Nat) : Rd (w.alloc (.cells #[zc a b] 52)) w.heap.size (.slice (some ⟨w.heap.size, 0, none⟩) 1 1) [(a, b)].length (zcs [(a, b)]) := by
  have hone : (w.alloc (.cells #[zc a b] 52)).cell? ⟨w.heap.size, 0, none⟩ = some (zc a b) := by rw [World.cell?_alloc_at _ _ _ _ rfl]; rfl
  refine .inr ⟨w.heap.size, 1, rfl, Nat.le_refl _, by simp, fun j u hu => ?_⟩
  match j, hu with
  | 0, hu => simp [zcs] at hu; subst hu; exact hone
theorem snd_one {a b : Nat} (h : a < b) (hb : b ≤ 9729) : Snd [(a, b)] :=
  ⟨fun i hi' => by simp at hi'; subst hi'; simpa [lo, hi] using h, fun i hi' => by simp at hi'; subst hi'; simp [hi, Lim]; omega, fun i hi' => by simp at hi'⟩
set_option maxRecDepth 100000 in
set_option maxHeartbeats 400000 in
theorem missing_no (a s : Int) (h : CRep w B c st vd vk vp ps) (hn : a < 0 ∨ s < 0 ∨ st.size ≤ a) : Calls Try.prog 9 #[cptr c, .int .i64 a, .int .i64 s] w (Ret3 w 0 0 false) := by
  have H := hid h
  clear h
  go_enter Try.func9, Try.ntmps9
  go_wp2_with fail
  (with_reducible refine (part_no _ _ H.out hn).mono ?_)
  rintro e w' ⟨rfl, n, rfl⟩
  go_wp2_with fail
  (with_reducible refine (make_no _ _ (.inr (.inr (Int.le_refl _))) _).mono ?_)
  rintro e w' ⟨rfl, rfl⟩
  go_wp2
  go_ret3
  exact ⟨rfl, (Kp.refl [] w).drewN n⟩
set_option maxRecDepth 100000 in
set_option maxHeartbeats 400000 in
theorem missing_yes (p q : Nat) (s : Int) (h : CRep w B c st vd vk vp ps) (h2 : 0 ≤ s) (h3 : p < st.size) (hq : min s (st.size - p) = q) (q0 : 0 < q) (hz : st.size ≤ 9728) (hk : Snd st.kn) (hkl : st.kn.length ≤ 3) (L : List (Nat × Nat)) (hL : L = lessF [(p, p + q)] st.kn)
    (hg : ∀ i, i < L.length → lo L i < hi L i ∧ Lim (hi L i)) :
    Calls Try.prog 9 #[cptr c, .int .i64 p, .int .i64 s] w (MissP w L) := by
  have hpq : p + q ≤ st.size := by omega
  have hS := snd_one (a := p) (b := p + q) (by omega) (by omega)
  obtain ⟨ak, capk, rfl⟩ := rd_shape h.kn
  have H := hid h
  have HS := hid hS
  have HK := hid hk
  have HQ := hid hq
  have HL := hid hL
  have HG := hid hg
  clear h hS hk hL hg hq
  go_enter Try.func9, Try.ntmps9
  go_wp2_with fail
  (with_reducible refine (part_yes _ _ H.out (by omega) h2 (by omega) hz).mono ?_)
  rintro e w1 ⟨rfl, n, hw⟩
  rw [HQ.out]
  have hk1 : Kp [] w w1 := by rw [hw]; exact (Kp.refl _ _).drewN n
  have h1 := H.out.kp0 hk1
  have c4 := h1.c4
  have hcl := h1.lt
  have HRK : Hid (Rd (w1.alloc (.cells #[zc p (p + q)] 52)) B _ _ _) := h1.kn.kp ((Kp.refl [] _).alloc _) (by simp)
  have HZ := hid (rd_oneZ w1 p (p + q))
  have HK1 := hid hk1
  clear hw hk1 h1
  go_wp2_with fail
  (with_reducible refine (make_ok _ _ (by omega) (by omega) (by omega) _).mono ?_)
  rintro e w' ⟨rfl, rfl⟩
  have e1 : ((p : Int) + (q : Int)).toNat = p + q := by omega
  rw [e1, Int.toNat_natCast]
  clear e1
  go_wp2_with fail
  (with_reducible refine (less_any HZ.out HRK.out HS.out HK.out (by simp) (by omega)).mono ?_)
  rintro e w3 ⟨v3, rfl, hr, hk⟩
  rw [← HL.out] at hr
  obtain ⟨a3, cap3, rfl⟩ := rd_shape hr
  have HK3 : Hid (Kp [] w w3) := (HK1.out.alloc _).trans hk
  by_cases hz0 : L.length = 0
  · have hz1 : ((L.length : Int) == 0) = true := by rw [beq_iff_eq]; omega
    clear hr hk
    go_wp2
    go_ret3
    unfold MissP; rw [if_pos hz0]
    exact ⟨rfl, HK3.out⟩
  · have hgl := HG.out 0 (by omega)
    obtain ⟨g3, rfl, hc0⟩ : ∃ g, a3 = some ⟨g, 0, none⟩ ∧ w3.cell? ⟨g, 0, none⟩ = some (zc (lo L 0) (hi L 0)) := by
      rcases hr with ⟨_, h0, _⟩ | ⟨g, cap, h, _, _, hc⟩
      · exact absurd h0 hz0
      · cases h; exact ⟨g, rfl, hc 0 _ (zcs_at L (by omega))⟩
    have hz1 : ((L.length : Int) == 0) = false := by rw [beq_eq_false_iff_ne]; omega
    have hpos : 0 < L.length := by omega
    clear hr hk
    go_wp2_with fail
    (with_reducible refine (ends_ok _ _ hgl.1 hgl.2 _).mono ?_)
    rintro e w' ⟨rfl, rfl⟩
    have hlim : hi L 0 ≤ 1099511627776 := hgl.2
    have hll := hgl.1
    go_wp2
    go_ret3
    unfold MissP; rw [if_neg hz0]
    exact ⟨by rw [Int.ofNat_sub (by omega)]; rfl, HK3.out⟩
end
end Go.Proofs.Ytnffhlbkigipmaa
