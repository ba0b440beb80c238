/- DERIVED. Lease, for writing, no piece. -/
import Derived.Test.YtnffhlbkigipmaaJ
namespace Go.Proofs.Ytnffhlbkigipmaa
open Go.RowKit Flo
set_option maxHeartbeats 400000 in
theorem within_any (n : Int) (w : World) :
    Calls Try.prog 19 #[.int .i64 n] w fun e w' => e = .returned (.int .i64 (max 0 (min n 9728))) ∧ w = w' := by
  go_enter Try.func19, Try.ntmps19
  go_wp2
  all_goals go_ret
  all_goals exact ⟨ret_int (by omega), rfl⟩
theorem clock_any (n : Int) (w : World) :
    Calls Try.prog 18 #[.int .i64 n] w fun e w' => e = .returned (.int .i64 (max 0 (min n 1099511627776))) ∧ w = w' := by
  go_enter Try.func18, Try.ntmps18
  go_wp2
  all_goals go_ret
  all_goals exact ⟨ret_int (by omega), rfl⟩
section
variable {w : World} {B c : Nat} {st : CS} {vd vk vp : Value}
/-- c.Lease(2, since, n, false), no piece. -/
def leaseC (st : CS) (since : Int) (n : Nat) : CS := clipC (growC { (forgot st) with mode := 2, since := since, size := n } n)
def LeaseP (w : World) (c : Nat) (B : Nat) (st : CS) (vd vp : Value) (e : Ending) (w' : World) : Prop :=
  ∃ vd' vk', e = .returned (.tuple #[]) ∧ CRep w' B c st vd' vk' vp [] ∧ Kp (foot c vd vp) w w' ∧ (vd'.ownBlock = vd.ownBlock ∨ ∀ k, vd'.ownBlock = some k → w.heap.size ≤ k)
set_option maxRecDepth 100000 in
set_option maxHeartbeats 400000 in
theorem lease_any (since n : Int) (h : CRep w B c st vd vk vp []) (h0 : 0 ≤ n) (hn : n ≤ 9728) (hd : st.dat.length ≤ 20000) (s0 : 0 ≤ since) (s1 : since ≤ 1000) :
    Calls Try.prog 7 #[cptr c, .int .i64 2, .int .i64 since, .int .i64 n, .bool false] w (LeaseP w c B (leaseC st since n.toNat) vd vp) := by
  obtain ⟨n, rfl⟩ := Int.eq_ofNat_of_zero_le h0
  rw [Int.toNat_natCast]
  have hs : (max 0 (min since 1099511627776)) = since := by omega
  have hz : (max 0 (min (n : Int) 9728)) = n := by omega
  have HS := hid hs
  have HZ := hid hz
  obtain ⟨ap, capp, rfl⟩ := owns_shape h.row
  have H := hid h
  clear h hs hz
  go_enter Try.func7, Try.ntmps7
  go_wp2_with fail
  (with_reducible refine (forget_any H.out).mono ?_)
  rintro e w1 ⟨rfl, h1, k1⟩
  have c0 := h1.c0
  have c1 := h1.c1
  have c2 := h1.c2
  have c5 := h1.c5
  have f0 := h1.fr 0
  have f1 := h1.fr 1
  have f2 := h1.fr 2
  have H1 := hid h1
  have K1 := hid k1
  clear h1 k1
  go_wp2_with fail
  (with_reducible refine (clock_any _ _).mono ?_)
  rintro e w' ⟨rfl, rfl⟩
  rw [HS.out]
  go_wp2_with fail
  (with_reducible refine (within_any _ _).mono ?_)
  rintro e w' ⟨rfl, rfl⟩
  rw [HZ.out]
  clear c0 c1 f0 f1
  have hk : Kp [c] w1 (((w1.setCell ⟨c, 0, none⟩ (.int .i64 2)).setCell ⟨c, 1, none⟩ (.int .i64 since)).setCell ⟨c, 2, none⟩ (.int .i64 n)) :=
    (((Kp.refl _ _).setCell (.inl (by simp)) _).setCell (.inl (by simp)) _).setCell (.inl (by simp)) _
  have hr : CRep (((w1.setCell ⟨c, 0, none⟩ (.int .i64 2)).setCell ⟨c, 1, none⟩ (.int .i64 since)).setCell ⟨c, 2, none⟩ (.int .i64 n)) B c { (forgot st) with mode := 2, since := since, size := n } vd (.slice none 0 0) (.slice ap ([] : List Pc).length capp) [] := by
    refine H1.out.set hk ?_ rfl rfl (.inl ⟨rfl, rfl, rfl⟩) (by simp [Value.ownBlock]) (fun g hg => by simp [Value.ownBlock] at hg)
    rw [heap_setCell_same (heap_setCell_same (heap_setCell_same H1.out.blk _) _)]; simp [cblk, forgot]
  have d2 := hr.c2
  have HR := hid hr
  have HK := hid hk
  clear hr hk
  go_wp2_with fail
  have hd2 : ({ (forgot st) with mode := 2, since := since, size := n } : CS).dat.length ≤ 20000 := hd
  (with_reducible refine (grow_any n HR.out (by omega) hd2).mono ?_)
  rintro e w3 ⟨vd', rfl, h3, k3, hv⟩
  have H3 := hid h3
  have K3 := hid k3
  have HV := hid hv
  clear h3 k3 hv
  have q1 : Snd (growC { (forgot st) with mode := 2, since := since, size := n } n).kn := ⟨fun i hi' => by simp [growC, forgot] at hi', fun i hi' => by simp [growC, forgot] at hi', fun i hi' => by simp [growC, forgot] at hi'⟩
  have q2 : (growC { (forgot st) with mode := 2, since := since, size := n } n).kn.length ≤ 3 := by simp [growC, forgot]
  have q3 : (growC { (forgot st) with mode := 2, since := since, size := n } n).size ≤ 9728 := by show n ≤ 9728; omega
  have Q1 := hid q1
  have Q2 := hid q2
  have Q3 := hid q3
  clear q1 q2 q3 hd2
  go_wp2_with fail
  (with_reducible refine (clip_any H3.out Q1.out Q2.out Q3.out).mono ?_)
  rintro e w4 ⟨vk', rfl, h4, k4⟩
  have H4 := hid h4
  have K4 := hid k4
  clear h4 k4
  go_wp2
  go_end0
  have sz : w.heap.size ≤ (((w1.setCell ⟨c, 0, none⟩ (.int .i64 2)).setCell ⟨c, 1, none⟩ (.int .i64 since)).setCell ⟨c, 2, none⟩ (.int .i64 n)).heap.size := Nat.le_trans K1.out.size HK.out.size
  have hc : ∀ k ∈ [c], k ∈ foot c vd (.slice ap ([] : List Pc).length capp) := by intro k hk; simp at hk; subst hk; exact mem_foot.2 (.inl rfl)
  refine ⟨vd', vk', rfl, H4.out, ?_, ?_⟩
  · refine (((K1.out.mono fun k hk => .inl (hc k hk)).trans (HK.out.mono fun k hk => .inl (hc k hk))).trans K3.out).trans (K4.out.mono fun k hk => .inl (hc k hk))
  · rcases HV.out with e | e
    · exact .inl e
    · right; intro k hk; rw [e] at hk; cases hk; exact sz
end
end Go.Proofs.Ytnffhlbkigipmaa
