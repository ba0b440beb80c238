/- DERIVED. Fill. -/
import Derived.Test.YtnffhlbkigipmaaN
namespace Go.Proofs.Ytnffhlbkigipmaa
open Go.RowKit Flo
def fillC (st : CS) (p : Nat) (l : List Int) : CS := { st with dat := over st.dat p l, kn := addK st.kn p (p + l.length) }
theorem bts_over (xs : List Int) (p : Nat) (l : List Int) : bts (over xs p l) = over (bts xs) p (bts l) := over_map _ _ _ _
theorem over_over {α : Type} (xs a b : List α) (p : Nat) (h : a.length = b.length) (hp : p + b.length ≤ xs.length) : over (over xs p a) p b = over xs p b := by
  apply List.ext_getElem?
  intro i
  rw [over_at _ _ _ _ (by rw [over_len _ _ _ (by omega)]; exact hp), over_at _ _ _ _ (by omega), over_at _ _ _ _ hp]
  by_cases h1 : p ≤ i ∧ i < p + b.length
  · rw [if_pos h1, if_pos h1]
  · rw [if_neg h1, if_neg h1, if_neg (by omega)]
section
variable {w : World} {B c : Nat} {st : CS} {vd vk vp : Value} {ps : List Pc}
/-- The bytes are others, in place. -/
theorem CRep.setR {w1 : World} {dat' : List Int} (h : CRep w B c st vd vk vp ps) (hg : w.grownBy w1 vd.ownBlock) (ho : w1.ownsRow B 5 1 vd dat'.length (bts dat')) :
    CRep w1 B c { st with dat := dat' } vd vk vp ps := by
  have k1 : Kp vd.ownBlock.toList w w1 := (Kp.refl _ _).grown hg (fun k hk => .inl (by simp [hk]))
  have nin : ∀ {v : Value}, (∀ g, v.ownBlock = some g → vd.ownBlock ≠ some g) → ∀ g, v.ownBlock = some g → g ∉ vd.ownBlock.toList := by
    intro v h2 g hg hm
    exact h2 g hg (by simpa using hm)
  exact { hB := h.hB, blk := k1.heap (by simp; exact fun e => h.cd e) h.blk, dat := ho, kn := h.kn.kp k1 (nin fun g hg e => (h.dk g e).1 hg), row := h.row.kp k1 (nin fun g hg e => (h.dk g e).2.1 hg), dy := h.dy, pl := fun p hp => (h.pl p hp).kp k1 (nin fun g hg e => (h.dk g e).2.2 p hp hg), cd := h.cd, ck := h.ck, cp := h.cp, cq := h.cq, dk := h.dk, pk := h.pk }
def FillP (w : World) (B c : Nat) (st : CS) (vd vp : Value) (ps : List Pc) (e : Ending) (w' : World) : Prop :=
  ∃ vk', e = .returned (.tuple #[]) ∧ CRep w' B c st vd vk' vp ps ∧ Kp (foot c vd vp) w w'
set_option maxRecDepth 100000 in
set_option maxHeartbeats 1000000 in
theorem fill_yes (p : Nat) (l : List Int) (gs os cs : Nat) (h : CRep w B c st vd vk vp ps) (hl : 0 < l.length) (h3 : p + l.length ≤ st.size) (hz : st.size ≤ 9728) (hd : st.size ≤ st.dat.length) (hk : Snd st.kn) (hkl : st.kn.length ≤ 3)
    (hL : lessF [(p, p + l.length)] st.kn = [(p, p + l.length)]) (hcs : l.length ≤ cs) (hgs : vd.ownBlock ≠ some gs) (hsrc : ∀ j u, (bts l)[j]? = some u → w.cell? ⟨gs, os + j, none⟩ = some u) :
    Calls Try.prog 10 #[cptr c, .int .i64 p, .int .i64 l.length, .slice (some ⟨gs, os, none⟩) l.length cs] w (FillP w B c (fillC st p l) vd vp ps) := by
  obtain ⟨gd, capd, rfl⟩ : ∃ g cap, vd = .slice (some ⟨g, 0, none⟩) st.dat.length cap := by
    rcases h.dat.2 with ⟨_, h0⟩ | ⟨g, cap, _, h, _⟩
    · omega
    · exact ⟨g, cap, h⟩
  have hcap : st.dat.length ≤ capd := by
    rcases h.dat.2 with ⟨h, _⟩ | ⟨g, cap, _, h, _, _, hc, _⟩
    · cases h
    · cases h; exact hc
  have hS := snd_one (a := p) (b := p + l.length) (by omega) (by omega)
  obtain ⟨ak, capk, rfl⟩ := rd_shape h.kn
  have hmin : min (l.length : Int) (st.size - p) = l.length := by omega
  have H := hid h
  have HS := hid hS
  have HK := hid hk
  have HL := hid hL
  have HM := hid hmin
  have HGS := hid hgs
  have HSRC := hid hsrc
  clear h hS hk hL hmin hgs hsrc
  go_enter Try.func10, Try.ntmps10
  go_wp2_with fail
  (with_reducible refine (part_yes _ _ H.out (by omega) (by omega) (by omega) hz).mono ?_)
  rintro e w1 ⟨rfl, n, hw⟩
  rw [HM.out]
  have hk1 : Kp [] w w1 := by rw [hw]; exact (Kp.refl _ _).drewN n
  have h1 := H.out.kp0 hk1
  have c4 := h1.c4
  have c3 := h1.c3
  have hcl := h1.lt
  have HRK : Hid (Rd (w1.alloc (.cells #[zc p (p + l.length)] 52)) B _ _ _) := h1.kn.kp ((Kp.refl [] _).alloc _) (by simp)
  have HZ := hid (rd_oneZ w1 p (p + l.length))
  have HK1 := hid hk1
  clear hw hk1 h1
  go_wp2_with fail
  (with_reducible refine (make_ok _ _ (by omega) (by omega) (by omega) _).mono ?_)
  rintro e w' ⟨rfl, rfl⟩
  have e1 : ((p : Int) + (l.length : Int)).toNat = p + l.length := by omega
  rw [e1, Int.toNat_natCast]
  clear e1
  go_wp2_with fail
  (with_reducible refine (less_any HZ.out HRK.out HS.out HK.out (by simp) (by omega)).mono ?_)
  rintro e w3 ⟨v3, rfl, hr, hk⟩
  rw [HL.out] at hr
  have HK3 : Hid (Kp [] w w3) := (HK1.out.alloc _).trans hk
  obtain ⟨g3, cap3, rfl, hc0⟩ : ∃ g cap3, v3 = .slice (some ⟨g, 0, none⟩) 1 cap3 ∧ w3.cell? ⟨g, 0, none⟩ = some (zc p (p + l.length)) := by
    rcases hr with ⟨_, h0, _⟩ | ⟨g, cap, h, _, _, hc⟩
    · simp at h0
    · exact ⟨g, cap, h, hc 0 _ rfl⟩
  have H3 := hid (H.out.kp0 HK3.out)
  have d3 := H3.out.c3
  clear hr hk c4 c3
  go_wp2
  refine wp_loop_rounds 2 ?_
  rw [rounds_succ]
  go_wp2_with fail
  (with_reducible refine (ends_ok _ _ (by omega) (by unfold Lim; omega) _).mono ?_)
  rintro e w' ⟨rfl, rfl⟩
  obtain ⟨w4, hclr, ho4, hg4⟩ := clear_own (p := p) (q := l.length) (c1 := capd - p) H3.out.dat (by omega) hl
  have ez : bts (over st.dat p (List.replicate l.length 0)) = over (bts st.dat) p (List.replicate l.length (.int .u8 0)) := by rw [bts, over_map]; simp [bts]
  have elen : (over st.dat p (List.replicate l.length 0)).length = st.dat.length := over_len _ _ _ (by simp; omega)
  have h4 : CRep w4 B c { st with dat := over st.dat p (List.replicate l.length 0) } (.slice (some ⟨gd, 0, none⟩) st.dat.length capd) (.slice ak st.kn.length capk) vp ps :=
    H3.out.setR hg4 (by rw [ez, elen]; exact ho4)
  have k4 : Kp [gd] w3 w4 := (Kp.refl _ _).grown hg4 (fun k hk => by cases hk; exact .inl (by simp))
  have d4 : w4.cell? ⟨c, 3, none⟩ = some (.slice (some ⟨gd, 0, none⟩) st.dat.length capd) := h4.c3
  have hs4 : ∀ j v, (bts l)[j]? = some v → w4.drew.cell? ((⟨gs, os, none⟩ : Addr).add j) = some v := by
    intro j v hv
    rw [Addr.add_lit]
    refine k4.cell (p := ⟨gs, os + j, none⟩) ?_ (HK3.out.cell (p := ⟨gs, os + j, none⟩) (by simp) (HSRC.out j v hv))
    have := HGS.out
    simp [Value.ownBlock] at this ⊢
    exact fun e => this e.symm
  obtain ⟨w5, hcpy, ho5, hg5⟩ := copy_own (w := w4.drew) (p := p) (d := l.length) (c1 := capd - p) (c2 := cs) (news := bts l) ho4.drew (by simp [bts]; omega) (bts_one l) (by simp [bts]) hs4
  rw [bts_len] at hcpy
  have hcs0 : 0 < cs := by omega
  have H4 := hid h4
  have K4 := hid k4
  have O5 := hid ho5
  have G5 := hid hg5
  clear h4 k4 ho5 hg5 ho4 hg4 ez elen hs4
  go_wp2_with fail
  clear hclr d3
  go_region
  go_wp2
  rw [rounds_succ]
  have e5 : over (over (bts st.dat) p (List.replicate l.length (Value.int .u8 0))) p (bts l) = bts (over st.dat p l) := by
    rw [bts_over, over_over _ _ _ _ (by simp [bts]) (by rw [bts_len, bts_len]; omega)]
  have h5 : CRep w5 B c { st with dat := over st.dat p l } (.slice (some ⟨gd, 0, none⟩) st.dat.length capd) (.slice ak st.kn.length capk) vp ps := by
    have := (H4.out.kp0 ((Kp.refl [] _).drewN 1)).setR (w1 := w5) (dat' := over st.dat p l) G5.out (by rw [over_len _ _ _ (by omega), ← e5]; exact O5.out)
    exact this
  have k5 : Kp [gd] w4 w5 := (((Kp.refl [gd] w4).drewN 1).grown G5.out (fun k hk => by cases hk; exact .inl (by simp)))
  have H5 := hid h5
  have K5 : Hid (Kp [gd] w w5) := ((HK3.out.mono (by simp)).trans K4.out).trans k5
  clear h5 k5 e5
  go_wp2_with fail
  have hgk : Gds st.kn := ⟨HK.out.lt, HK.out.lim⟩
  (with_reducible refine (know_yes _ _ H5.out (by omega) (by omega) (by omega) hgk hkl).mono ?_)
  rintro e w6 ⟨vk', rfl, h6, k6⟩
  have H6 := hid h6
  have K6 := hid k6
  clear h6 k6 hgk
  go_wp2
  go_end0
  have e1 : ((p : Int) + (l.length : Int)).toNat = p + l.length := by omega
  have h6 := H6.out
  rw [e1, Int.toNat_natCast] at h6
  have e2 : knowC { st with dat := over st.dat p l } p (p + l.length) = fillC st p l := by unfold knowC fillC; rw [if_pos (by omega)]
  rw [e2] at h6
  refine ⟨vk', rfl, h6, ?_⟩
  refine (K5.out.mono ?_).trans (K6.out.mono ?_)
  · intro n hn; simp at hn; subst hn; exact .inl (mem_foot.2 (.inr (.inl rfl)))
  · intro n hn; simp at hn; subst hn; exact .inl (mem_foot.2 (.inl rfl))
end
end Go.Proofs.Ytnffhlbkigipmaa
