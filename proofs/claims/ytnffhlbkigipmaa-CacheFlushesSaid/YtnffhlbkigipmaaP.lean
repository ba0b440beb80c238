/- DERIVED. Write. -/
import Derived.Test.YtnffhlbkigipmaaO
import Derived.Deep.DeepCutAuto
import Derived.Deep.RegionHeld3
import Derived.Deep.AppendLies
import Derived.Deep.RegionLaw
namespace Go.Proofs.Ytnffhlbkigipmaa
open Go.RowKit Flo
def gapC (st : CS) (a : Nat) : CS := if st.size < a then { st with dat := over st.dat st.size (List.replicate (a - st.size) 0), kn := addK st.kn st.size a } else st
def putC (st : CS) (a : Nat) (l : List Int) : CS := { st with dat := over st.dat a l, kn := addK st.kn a (a + l.length), size := max st.size (a + l.length), dirty := st.dirty ++ [((a : Int), l)] }
def writeC (st : CS) (a : Nat) (l : List Int) : CS := putC (gapC (growC st (a + l.length)) a) a l
theorem Try.info39 : (Try.prog.info? 39).map (fun i => (i.zero, i.size, i.bytes)) = some (some (.agg #[.int .i64 0, .slice none 0 0]), 2, 32) := by kernel_rfl
theorem step39 {w : World} {ops : Array Oper} {o : Oper} {a : Act} {K : Act → World → Prop} {Q : Exit → Act → World → Prop} {E : Prop} (hg : o.guard = none) (s x : Operand)
    (hop : o.op = Op.call { callee := Callee.builtin Builtin.append, args := #[s, x], argTypes := #[44, 44] }) (B : Nat) (v : Value) (ps : List Pc) (hs : a.eval s = v) (hown : w.ownsRow B 39 2 v ps.length (pcs ps))
    (g : Nat) (at_ : Int) (sa : Option Addr) (sl sc : Nat) (hx : a.eval x = .slice (some ⟨g, 0, none⟩) 1 1) (hgw : w.heap[g]? = some (.cells #[.int .i64 at_, .slice sa sl sc] 39 (0, 0))) (hps : ps.length ≤ 100) (hb : B ≤ w.heap.size)
    (hK : ∀ (g2 cap2 : Nat) (w' : World), w'.ownsRow B 39 2 (.slice (some ⟨g2, 0, none⟩) (ps.length + 1) cap2) (ps.length + 1) (pcs ps ++ [.int .i64 at_, .slice sa sl sc]) → w.grownBy w' v.ownBlock → (v.ownBlock = some g2 ∨ g2 = w.heap.size) → g2 < w'.heap.size →
      K (a.put o.dst (.slice (some ⟨g2, 0, none⟩) (ps.length + 1) cap2)) w') :
    if Region.wanted o (yielded ops a.tmps) = true then Oper.wp Try.prog o a w K Q else E := by
  obtain ⟨i0, hi0, hz0, hz1, hz2⟩ := info_parts Try.info39
  exact step_append_lies w hg s x 44 hop B 39 i0 _ 2 32 Try.underlying44 hi0 hz0 hz1 hz2 rfl (by omega) v ps.length (pcs ps) hs hown ⟨g, 0, none⟩ 1 1 [.int .i64 at_, .slice sa sl sc] hx rfl (World.news_of_block hgw) (by simp [Value.oneCell']) (by omega) (by unfold maxLen; omega) (by omega) hb _ rfl hK
theorem pcs_snoc (ps : List Pc) (p : Pc) : pcs ps ++ [.int .i64 p.at_, p.v] = pcs (ps ++ [p]) := by simp [pcs]
/-- A piece more. -/
theorem CRep.addP {w w6 w7 : World} {B c : Nat} {st : CS} {vd vk vp : Value} {ps : List Pc} {g6 cap6 g7 cap7 : Nat} {l : List Int} {a : Int} {o : Obj} (h : CRep w B c st vd vk vp ps) (hk : Kp [] w w6)
    (ho6 : w6.ownsRow w.heap.size 5 1 (.slice (some ⟨g6, 0, none⟩) l.length cap6) l.length (bts l)) (hg : (w6.alloc o).grownBy w7 vp.ownBlock)
    (hown7 : w7.ownsRow B 39 2 (.slice (some ⟨g7, 0, none⟩) (ps.length + 1) cap7) (ps.length + 1) (pcs ps ++ [.int .i64 a, .slice (some ⟨g6, 0, none⟩) l.length cap6])) (hat : vp.ownBlock = some g7 ∨ g7 = (w6.alloc o).heap.size) :
    CRep (w7.setCell ⟨c, 5, none⟩ (.slice (some ⟨g7, 0, none⟩) (ps.length + 1) cap7)) B c { st with dirty := st.dirty ++ [(a, l)] } vd vk (.slice (some ⟨g7, 0, none⟩) (ps.length + 1) cap7) (ps ++ [⟨a, .slice (some ⟨g6, 0, none⟩) l.length cap6, l⟩]) ∧
      Kp (c :: vp.ownBlock.toList) w (w7.setCell ⟨c, 5, none⟩ (.slice (some ⟨g7, 0, none⟩) (ps.length + 1) cap7)) := by
  have hcl := h.lt
  have hB : B ≤ w.heap.size := by have := h.hB; omega
  have h6 := ho6.lt g6 rfl
  have hsz : (w6.alloc o).heap.size = w6.heap.size + 1 := by simp
  have hs6 := hk.size
  have k7 : Kp vp.ownBlock.toList w w7 := ((hk.alloc o).mono (by simp)).grown hg (fun k hk => .inl (by simp [hk]))
  have k8 : Kp (c :: vp.ownBlock.toList) w (w7.setCell ⟨c, 5, none⟩ (.slice (some ⟨g7, 0, none⟩) (ps.length + 1) cap7)) := (k7.mono (fun n hn => .inl (List.mem_cons_of_mem _ hn))).setCell (.inl (by simp)) _
  have hbl := k7.heap (k := c) (by simp; exact fun e => h.cp e) h.blk
  have nin : ∀ {v : Value}, v.ownBlock ≠ some c → (∀ g, v.ownBlock = some g → vp.ownBlock ≠ some g) → ∀ g, v.ownBlock = some g → g ∉ c :: vp.ownBlock.toList := by
    intro v h1 h2 g hg hm
    rcases List.mem_cons.1 hm with e | e
    · subst e; exact h1 hg
    · exact h2 g hg (by simpa using e)
  have g7c : g7 ≠ c := by
    rcases hat with e | e
    · intro e2; subst e2; exact h.cp e
    · omega
  -- the new row's block is no block of the others
  have g7v : ∀ {v : Value}, (∀ g, v.ownBlock = some g → g < w.heap.size) → (∀ g, v.ownBlock = some g → vp.ownBlock ≠ some g) → v.ownBlock ≠ some g7 := by
    intro v h1 h2 e
    rcases hat with e2 | e2
    · exact h2 g7 e e2
    · have := h1 g7 e; omega
  have r6 : Rd (w7.setCell ⟨c, 5, none⟩ (.slice (some ⟨g7, 0, none⟩) (ps.length + 1) cap7)) B (.slice (some ⟨g6, 0, none⟩) l.length cap6) l.length (bts l) := by
    have q := (Rd.of_owns ho6).kp (S := c :: vp.ownBlock.toList) (w' := w7.setCell ⟨c, 5, none⟩ (.slice (some ⟨g7, 0, none⟩) (ps.length + 1) cap7))
      (((((Kp.refl _ w6).alloc o).grown hg (fun k hk => .inl (by simp [hk])))).setCell (.inl (by simp)) _) (fun g hg => by
        have hg' : g6 = g := by simpa [Value.ownBlock] using hg
        subst hg'
        intro hm
        rcases List.mem_cons.1 hm with e | e
        · omega
        · have := (h.row.lt g6 (by simpa using e)).2; omega)
    exact q.down hB
  refine ⟨{ hB := h.hB, blk := ?_, dat := h.dat.kp k8 (nin h.cd fun g hg e => (h.dk g hg).2.1 e), kn := h.kn.kp k8 (nin h.ck fun g hg e => (h.pk g e).1 hg), row := ?_, dy := by simp [h.dy], pl := ?_, cd := h.cd, ck := h.ck, cp := by simp [Value.ownBlock]; exact g7c, cq := ?_, dk := ?_, pk := ?_ }, k8⟩
  · rw [heap_setCell_same hbl]; simp [cblk]
  · have e : (ps ++ [(⟨a, .slice (some ⟨g6, 0, none⟩) l.length cap6, l⟩ : Pc)]).length = ps.length + 1 := by simp
    rw [← pcs_snoc, e]
    have hnc : ∀ g, (Value.slice (some ⟨g7, 0, none⟩) (ps.length + 1) cap7).ownBlock = some g → g ∉ [c] := by
      intro g hg
      have hg' : g7 = g := by simpa [Value.ownBlock] using hg
      subst hg'; simpa using g7c
    exact hown7.kp ((Kp.refl [c] _).setCell (.inl (by simp)) _) hnc
  · intro p hp
    rcases List.mem_append.1 hp with hp | hp
    · exact (h.pl p hp).kp k8 (nin (h.cq p hp) fun g hg e => (h.pk g e).2 p hp hg)
    · simp at hp; subst hp; exact r6
  · intro p hp
    rcases List.mem_append.1 hp with hp | hp
    · exact h.cq p hp
    · simp at hp; subst hp; simp [Value.ownBlock]; omega
  · intro k hk
    refine ⟨(h.dk k hk).1, ?_, ?_⟩
    · intro e
      have e' : g7 = k := by simpa [Value.ownBlock] using e
      subst e'
      exact g7v (v := vd) (fun g hg => (h.dat.lt g hg).2) (fun g hg e => (h.dk g hg).2.1 e) hk
    · intro p hp
      rcases List.mem_append.1 hp with hp | hp
      · exact (h.dk k hk).2.2 p hp
      · simp at hp; subst hp; intro e
        have e' : g6 = k := by simpa [Value.ownBlock] using e
        have := (h.dat.lt k hk).2; omega
  · intro k hk
    have hk' : g7 = k := by simpa [Value.ownBlock] using hk
    subst hk'
    refine ⟨g7v (v := vk) (fun g hg => (h.kn.lt g hg).2) (fun g hg e => (h.pk g e).1 hg), ?_⟩
    intro p hp
    rcases List.mem_append.1 hp with hp | hp
    · exact g7v (v := p.v) (fun g hg => ((h.pl p hp).lt g hg).2) (fun g hg e => (h.pk g e).2 p hp hg)
    · simp at hp; subst hp; simp [Value.ownBlock]
      rcases hat with e | e
      · have := (h.row.lt g7 e).2; omega
      · omega
section
variable {w : World} {B c : Nat} {st : CS} {vd vk vp : Value} {ps : List Pc}
/-- What a write leaves. -/
def WriteP (w : World) (B c : Nat) (st : CS) (vd vp : Value) (e : Ending) (w' : World) : Prop :=
  ∃ vd' vk' vp' ps', e = .returned (.int .i64 0) ∧ CRep w' B c st vd' vk' vp' ps' ∧ Kp (foot c vd vp) w w' ∧ ∀ k ∈ foot c vd' vp', k ∈ foot c vd vp ∨ w.heap.size ≤ k
set_option maxRecDepth 100000 in
set_option maxHeartbeats 400000 in
theorem write_none (a : Nat) (v : Value) (h : CRep w B c st vd vk vp ps) (ha : a ≤ 9728) (hm : st.mode = 2) (hv : ∃ x cap, v = .slice x 0 cap) :
    Calls Try.prog 8 #[cptr c, .int .i64 a, v] w fun e w' => e = .returned (.int .i64 0) ∧ w = w' := by
  obtain ⟨x, cap, rfl⟩ := hv
  have c0 := h.c0
  rw [hm] at c0
  clear h hm
  go_enter Try.func8, Try.ntmps8
  go_wp2
  go_ret
  exact ⟨rfl, rfl⟩
set_option maxRecDepth 100000 in
set_option maxHeartbeats 1000000 in
theorem write_some (a : Nat) (l : List Int) (gs os cs : Nat) (h : CRep w B c st vd vk vp ps) (hl : 0 < l.length) (ha : a + l.length ≤ 9728) (hm : st.mode = 2) (hps : ps.length < 16)
    (hz : st.size ≤ 9728) (hd : st.size ≤ st.dat.length) (hd2 : st.dat.length ≤ 20000) (hk : Gds st.kn) (hkl : st.kn.length ≤ 3)
    (hk1 : Gds (gapC (growC st (a + l.length)) a).kn) (hkl1 : (gapC (growC st (a + l.length)) a).kn.length ≤ 3)
    (hgs : gs ∉ foot c vd vp) (hgl : gs < w.heap.size) (hsrc : ∀ j u, (bts l)[j]? = some u → w.cell? ⟨gs, os + j, none⟩ = some u) :
    Calls Try.prog 8 #[cptr c, .int .i64 a, .slice (some ⟨gs, os, none⟩) l.length cs] w (WriteP w B c (writeC st a l) vd vp) := by
  have c0 := h.c0
  rw [hm] at c0
  have c5 := h.c5
  obtain ⟨ap, capp, rfl⟩ := owns_shape h.row
  have H := hid h
  have HK := hid hk
  have HK1 := hid hk1
  have HGS := hid hgs
  have HSRC := hid hsrc
  have hla : ((l.length : Int) == 0) = false := by rw [beq_eq_false_iff_ne]; omega
  have hcl := h.lt
  clear h hk hk1 hgs hsrc hm
  go_enter Try.func8, Try.ntmps8
  go_wp2_with fail
  have e0 : ((a : Int) + (l.length : Int)) = ((a + l.length : Nat) : Int) := by omega
  rw [e0]
  (with_reducible refine (grow_any _ H.out (by omega) hd2).mono ?_)
  rintro e w1 ⟨vd1, rfl, h1, k1, hv1⟩
  clear e0
  have hdl : (growC st (a + l.length)).dat.length = max st.dat.length (a + l.length) := by simp [growC]; omega
  obtain ⟨gd, capd, rfl⟩ : ∃ g cap, vd1 = .slice (some ⟨g, 0, none⟩) (growC st (a + l.length)).dat.length cap := by
    rcases h1.dat.2 with ⟨_, h0⟩ | ⟨g, cap, _, h, _⟩
    · omega
    · exact ⟨g, cap, h⟩
  have hcap : (growC st (a + l.length)).dat.length ≤ capd := by
    rcases h1.dat.2 with ⟨h, _⟩ | ⟨g, cap, _, h, _, _, hc, _⟩
    · cases h
    · cases h; exact hc
  have hgsd : gs ≠ gd := by
    intro e
    rcases hv1 with e1 | e1
    · exact HGS.out (mem_foot.2 (.inr (.inl (by rw [← e1, e]; rfl))))
    · simp [Value.ownBlock] at e1; omega
  have hgsc : gs ≠ c := fun e => HGS.out (mem_foot.2 (.inl e))
  obtain ⟨st1, hst1⟩ : ∃ st1, st1 = growC st (a + l.length) := ⟨_, rfl⟩
  rw [← hst1] at h1 hdl hcap
  have hsz1 : st1.size = st.size := by rw [hst1]; rfl
  have c2 := h1.c2
  have c3 := h1.c3
  rw [hsz1] at c2
  have hkn1 : st1.kn = st.kn := by rw [hst1]; rfl
  have hps1 : st1.dirty = st.dirty := by rw [hst1]; rfl
  have H1 := hid h1
  have K1 := hid k1
  have HV1 := hid hv1
  have HST := hid hst1
  have HDL := hid hdl
  have HSZ := hid hsz1
  have HKN := hid hkn1
  have HPS := hid hps1
  have hdn : a + l.length ≤ st1.dat.length := by omega
  have hds : st.size ≤ st1.dat.length := by omega
  clear h1 k1 hv1 hst1 hdl hsz1 hkn1 hps1 c0 c5
  go_upto_if 54 with (fail)
  go_cut [] (fun wx => ∃ vk', CRep wx B c (gapC st1 a) (.slice (some ⟨gd, 0, none⟩) st1.dat.length capd) vk' (.slice ap ps.length capp) ps ∧ Kp [c, gd] w1 wx)
  case first =>
    by_cases hgap : st.size < a
    · obtain ⟨w2, hclr, ho2, hg2⟩ := clear_own (w := w1.drew) (p := st.size) (q := a - st.size) (c1 := capd - st.size) H1.out.dat.drew (by omega) (by omega)
      have O2 := hid ho2
      have G2 := hid hg2
      have hca : a ≤ capd := by omega
      have e2 : over (bts st1.dat) st.size (List.replicate (a - st.size) (Value.int .u8 0)) = bts (over st1.dat st.size (List.replicate (a - st.size) 0)) := by rw [bts_over, bts_zero]
      have hol : (over st1.dat st.size (List.replicate (a - st.size) 0)).length = st1.dat.length := over_len _ _ _ (by simp; omega)
      have h2 : CRep w2 B c { st1 with dat := over st1.dat st.size (List.replicate (a - st.size) 0) } (.slice (some ⟨gd, 0, none⟩) st1.dat.length capd) vk (.slice ap ps.length capp) ps :=
        (H1.out.kp0 ((Kp.refl [] _).drewN 1)).setR (w1 := w2) G2.out (by rw [hol, ← e2]; exact O2.out)
      have k2 : Kp [gd] w1 w2 := (((Kp.refl [gd] w1).drewN 1).grown G2.out (fun k hk => by cases hk; exact .inl (by simp)))
      have d2 : w2.cell? ⟨c, 2, none⟩ = some (.int .i64 st.size) := by have := h2.c2; rw [this]; exact congrArg (fun n : Nat => some (Value.int .i64 n)) HSZ.out
      have H2 := hid h2
      have K2 := hid k2
      have hk2 : Gds st1.kn := by rw [HKN.out]; exact HK.out
      have hkl2 : st1.kn.length ≤ 3 := by rw [HKN.out]; exact hkl
      have HK2 := hid hk2
      have HKL2 := hid hkl2
      clear ho2 hg2 e2 hol h2 k2 hk2 hkl2
      go_wp2
      go_region
      clear hclr c2 c3
      go_wp2_with fail
      (with_reducible refine (know_yes _ _ H2.out (by omega) (by omega) (by omega) HK2.out HKL2.out).mono ?_)
      rintro e w3 ⟨vk3, rfl, h3, k3⟩
      have H3 := hid h3
      have K3 := hid k3
      clear h3 k3
      go_wp2
      go_meet
      have h3 := H3.out
      rw [Int.toNat_natCast, Int.toNat_natCast] at h3
      refine ⟨vk3, ?_, (K2.out.mono (by simp)).trans (K3.out.mono (by simp))⟩
      have e : gapC st1 a = knowC { st1 with dat := over st1.dat st.size (List.replicate (a - st.size) 0) } st.size a := by
        unfold gapC knowC; rw [HSZ.out, if_pos hgap, if_pos hgap]
      rw [e]; exact h3
    · go_wp2
      go_meet
      exact ⟨vk, by unfold gapC; rw [HSZ.out, if_neg hgap]; exact H1.out, Kp.refl _ _⟩
  case rest =>
    obtain ⟨vk2, h2, k2⟩ := hcut
    have hg1 : (gapC st1 a).dat.length = st1.dat.length := by
      unfold gapC; split
      · exact over_len _ _ _ (by simp; omega)
      · rfl
    have hcells : ∀ j v, (bts l)[j]? = some v → wc.cell? ((⟨gs, os, none⟩ : Addr).add j) = some v := by
      intro j v hv
      rw [Addr.add_lit]
      exact k2.cell (p := ⟨gs, os + j, none⟩) (by simp; exact ⟨hgsc, hgsd⟩) (K1.out.cell (p := ⟨gs, os + j, none⟩) HGS.out (HSRC.out j v hv))
    have hod := h2.dat
    rw [hg1] at hod
    obtain ⟨w3, hcpy, ho3, hg3⟩ := copy_own (w := wc) (p := a) (d := st1.dat.length - a) (c1 := capd - a) (c2 := cs) (news := bts l) hod (by simp [bts]; omega) (bts_one l) (by simp [bts]; omega) hcells
    rw [bts_len] at hcpy
    have hol : (over (gapC st1 a).dat a l).length = st1.dat.length := by rw [over_len _ _ _ (by omega), hg1]
    have h3 : CRep w3 B c { (gapC st1 a) with dat := over (gapC st1 a).dat a l } (.slice (some ⟨gd, 0, none⟩) st1.dat.length capd) vk2 (.slice ap ps.length capp) ps :=
      h2.setR (w1 := w3) hg3 (by rw [hol, bts_over]; exact ho3)
    have k3 : Kp [c, gd] w1 w3 := k2.trans ((Kp.refl _ _).grown hg3 (fun k hk => by cases hk; exact .inl (by simp)))
    have d3 : wc.cell? ⟨c, 3, none⟩ = some (.slice (some ⟨gd, 0, none⟩) st1.dat.length capd) := h2.c3
    have hac : a < capd := by omega
    have H3 := hid h3
    have K3 := hid k3
    have hstk : ({ (gapC st1 a) with dat := over (gapC st1 a).dat a l } : CS).kn = (gapC st1 a).kn := rfl
    have hk3 : Gds ({ (gapC st1 a) with dat := over (gapC st1 a).dat a l } : CS).kn := by rw [hstk, HST.out]; exact HK1.out
    have hkl3 : ({ (gapC st1 a) with dat := over (gapC st1 a).dat a l } : CS).kn.length ≤ 3 := by rw [hstk, HST.out]; exact hkl1
    have HK3 := hid hk3
    have HKL3 := hid hkl3
    have hgs2 : (gapC st1 a).size = st.size := by unfold gapC; split <;> exact HSZ.out
    have HGS2 := hid hgs2
    clear h2 k2 hg1 hcells hod ho3 hg3 hol h3 k3 hk3 hkl3 hstk c2 c3 hgs2
    go_wp2_with fail
    (with_reducible refine (know_yes _ _ H3.out (by omega) (by omega) (by omega) HK3.out HKL3.out).mono ?_)
    rintro e w4 ⟨vk4, rfl, h4, k4⟩
    have e1 : ((a : Int) + (l.length : Int)).toNat = a + l.length := by omega
    rw [Int.toNat_natCast, e1] at h4
    have d2 : w4.cell? ⟨c, 2, none⟩ = some (.int .i64 st.size) := by have := h4.c2; rw [this]; exact congrArg (fun n : Nat => some (Value.int .i64 n)) HGS2.out
    have f2 := h4.fr 2
    have H4 := hid h4
    have K4 := hid k4
    clear hcpy d3 h4 k4 e1
    go_upto_region 19 with (fail)
    have k5 : Kp [c] w4 (w4.setCell ⟨c, 2, none⟩ (.int .i64 (if (st.size : Int) < (a : Int) + (l.length : Int) then (a : Int) + (l.length : Int) else (st.size : Int)))) := (Kp.refl _ _).setCell (.inl (by simp)) _
    have e5 : (if (st.size : Int) < (a : Int) + (l.length : Int) then (a : Int) + (l.length : Int) else (st.size : Int)) = ((max st.size (a + l.length) : Nat) : Int) := by split <;> omega
    have h5 : CRep (w4.setCell ⟨c, 2, none⟩ (.int .i64 (if (st.size : Int) < (a : Int) + (l.length : Int) then (a : Int) + (l.length : Int) else (st.size : Int)))) B c
        { (knowC { (gapC st1 a) with dat := over (gapC st1 a).dat a l } a (a + l.length)) with size := max st.size (a + l.length) } (.slice (some ⟨gd, 0, none⟩) st1.dat.length capd) vk4 (.slice ap ps.length capp) ps := by
      refine H4.out.set k5 ?_ rfl rfl (H4.out.kn.kp k5 (fun g hg => by simp; intro e; subst e; exact H4.out.ck hg)) H4.out.ck (fun g hg => ⟨fun e => (H4.out.dk g e).1 hg, fun e => (H4.out.pk g e).1 hg⟩)
      rw [heap_setCell_same H4.out.blk]
      rw [e5]; simp [cblk]
    generalize (w4.setCell ⟨c, 2, none⟩ (.int .i64 (if (st.size : Int) < (a : Int) + (l.length : Int) then (a : Int) + (l.length : Int) else (st.size : Int)))) = w5 at *
    obtain ⟨st5, hst5⟩ : ∃ st5 : CS, st5 = { (knowC { (gapC st1 a) with dat := over (gapC st1 a).dat a l } a (a + l.length)) with size := max st.size (a + l.length) } := ⟨_, rfl⟩
    rw [← hst5] at h5
    have kk5 : Kp [c, gd] w1 w5 := (K3.out.trans (K4.out.mono (by simp))).trans (k5.mono (by simp))
    have c5 := h5.c5
    have f5 := h5.fr 5
    have hcl5 := h5.lt
    have hsrc5 : ∀ (W : World), Kp [] w5 W → ∀ j u, (bts l)[j]? = some u → W.cell? ⟨gs, os + j, none⟩ = some u := by
      intro W hW j v hv
      exact hW.cell (p := ⟨gs, os + j, none⟩) (by simp) (kk5.cell (p := ⟨gs, os + j, none⟩) (by simp; exact ⟨hgsc, hgsd⟩) (K1.out.cell (p := ⟨gs, os + j, none⟩) HGS.out (HSRC.out j v hv)))
    have hgl5 : gs < w5.heap.size := by have := K1.out.size; have := kk5.size; omega
    have H5 := hid h5
    have K5 := hid kk5
    have S5 := hid hsrc5
    have HS5 := hid hst5
    clear h5 kk5 hsrc5 e5 k5 hst5 d2 f2 H4 K4 H3 K3
    have hgl6 : gs < w5.drew.heap.size := hgl5
    have HCALL := hid (cloneB_some gs os cs l w5.drew (by omega) hgl6 (S5.out _ (Kp.refl [] w5).drew))
    have HROW : Hid (∀ W, Kp [] w5.drew W → W.ownsRow B 39 2 (.slice ap ps.length capp) ps.length (pcs ps)) := fun W hW => H5.out.row.kp ((Kp.refl [] w5).drew.trans hW) (by simp)
    have HBB : Hid (∀ W, Kp [] w5.drew W → B ≤ W.heap.size) := fun W hW => by have h1 := hW.size; have h2 := H5.out.hB; have h3 := H5.out.lt; have h4 : w5.drew.heap.size = w5.heap.size := rfl; omega
    have c5d : w5.drew.cell? ⟨c, 5, none⟩ = some (.slice ap ps.length capp) := c5
    have HC7 : Hid (∀ W W' o, Kp [] w5.drew W → (W.alloc o).grownBy W' (Value.slice ap ps.length capp).ownBlock → W'.cell? ⟨c, 5, none⟩ = some (.slice ap ps.length capp) ∧ W'.frozen? ⟨c, 5, none⟩ = false) := by
      intro W W' o hW hg
      have k : Kp (Value.slice ap ps.length capp).ownBlock.toList w5 W' := ((((Kp.refl [] _).drew.trans hW).alloc o).mono (by simp)).grown hg (fun k hk => .inl (by simp [hk]))
      have hb := k.heap (k := c) (by simp; exact fun e => H5.out.cp e) H5.out.blk
      exact ⟨k.cell (p := ⟨c, 5, none⟩) (by simp; exact fun e => H5.out.cp e) c5, by simp [World.frozen?, hb]⟩
    have HC6 : Hid (∀ W, Kp [] w5.drew W → W.cell? ⟨c, 5, none⟩ = some (.slice ap ps.length capp) ∧ c < W.heap.size) := fun W hW =>
      ⟨hW.cell (p := ⟨c, 5, none⟩) (by simp) c5d, by have h1 := hW.size; have h2 : w5.drew.heap.size = w5.heap.size := rfl; have h3 := H5.out.lt; omega⟩
    have HP100 : Hid (ps.length ≤ 100) := by show _ ≤ _; omega
    go_region_law (first | (refine step39 rfl _ _ rfl B _ ps rfl ((HROW.out w6 hk6).alloc _) w6.heap.size a (some ⟨g6, 0, none⟩) l.length cap6 rfl (heap_alloc_new w6 _) HP100.out ?_ ?_; exact HBB.out _ (hk6.alloc _); intro g7 cap7 w7 hown7 hgrow hat hlt; obtain ⟨d7, f7⟩ := HC7.out _ _ _ hk6 hgrow; have HAT := hid hat; clear hat) | (go_simp; go_at_call 23; refine HCALL.out.mono ?_; rintro e w6 ⟨v6, rfl, ho6, hk6⟩; obtain ⟨g6, cap6, rfl, hb6, hl6⟩ := ho6.form hl; obtain ⟨d6, l6⟩ := HC6.out _ hk6))
    all_goals go_wp2
    all_goals
      go_ret
      obtain ⟨r1, r2⟩ := CRep.addP H5.out ((Kp.refl [] w5).drew.trans hk6) ho6 hgrow hown7 HAT.out
      have hsz5 : w.heap.size ≤ w5.heap.size := Nat.le_trans K1.out.size K5.out.size
      have hst : writeC st a l = { st5 with dirty := st5.dirty ++ [((a : Int), l)] } := by
        rw [HS5.out]; unfold writeC putC knowC
        rw [← HST.out, HGS2.out]
        simp only [show a < a + l.length from by omega, if_true]
      have hsub : ∀ n ∈ c :: (Value.slice ap ps.length capp).ownBlock.toList, n ∈ foot c vd (.slice ap ps.length capp) ∨ w.heap.size ≤ n := by
        intro n hn
        rcases List.mem_cons.1 hn with e | e
        · exact .inl (mem_foot.2 (.inl e))
        · exact .inl (mem_foot.2 (.inr (.inr (by simpa using e))))
      have hgdf : gd ∈ foot c vd (.slice ap ps.length capp) ∨ w.heap.size ≤ gd := by
        rcases HV1.out with e | e
        · exact .inl (mem_foot.2 (.inr (.inl (e.symm.trans rfl))))
        · have e' : gd = w.heap.size := by simpa [Value.ownBlock] using e
          exact .inr (by omega)
      refine ⟨_, _, _, _, rfl, by rw [hst]; exact r1, ?_, ?_⟩
      · refine (K1.out.step K5.out ?_).step r2 hsub
        intro n hn
        simp at hn
        rcases hn with e | e
        · exact .inl (mem_foot.2 (.inl e))
        · rw [e]; exact hgdf
      · intro k hk
        rcases mem_foot.1 hk with e | e | e
        · exact .inl (mem_foot.2 (.inl e))
        · have e' : gd = k := by simpa [Value.ownBlock] using e
          rw [← e']; exact hgdf
        · have e' : g7 = k := by simpa [Value.ownBlock] using e
          rcases HAT.out with e2 | e2
          · rw [← e']; exact .inl (mem_foot.2 (.inr (.inr e2)))
          · right
            have h1 := hk6.size
            have h2 : w5.drew.heap.size = w5.heap.size := rfl
            simp at e2; omega
end
end Go.Proofs.Ytnffhlbkigipmaa
