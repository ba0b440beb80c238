/- DERIVED. First. -/
import Derived.Test.YtnffhlbkigipmaaP
namespace Go.Proofs.Ytnffhlbkigipmaa
open Go.RowKit Flo
section
variable {w : World} {B c : Nat} {st : CS} {vd vk vp : Value} {ps : List Pc}
/-- The first piece. -/
def FirstP (w : World) (p : Pc) (e : Ending) (w' : World) : Prop :=
  ∃ v', e = .returned (.tuple #[.agg #[.int .i64 p.at_, v'], .bool true]) ∧ Rd w' w.heap.size v' p.data.length (bts p.data) ∧ Kp [] w w'
def NoFirstP (w : World) (e : Ending) (w' : World) : Prop :=
  e = .returned (.tuple #[.agg #[.int .i64 0, .slice none 0 0], .bool false]) ∧ Kp [] w w'
set_option maxRecDepth 100000 in
set_option maxHeartbeats 400000 in
theorem first_no (h : CRep w B c st vd vk vp []) : Calls Try.prog 13 #[cptr c] w (NoFirstP w) := by
  have H := hid h
  clear h
  have H2 := hid (H.out.kp0 (((Kp.refl [] w).alloc (.cells #[.int .i64 0, .slice none 0 0] 39))))
  go_enter Try.func13, Try.ntmps13
  go_wp2_with fail
  (with_reducible refine (dirty_any H2.out).mono ?_)
  rintro e w' ⟨rfl, rfl⟩
  go_wp2
  exact bodyPost_ret (v := .tuple #[.agg #[.int .i64 0, .slice none 0 0], .bool false]) (by simp [results, Try.results13, go_sem]) rfl ⟨rfl, (Kp.refl _ _).alloc _⟩
set_option maxRecDepth 100000 in
set_option maxHeartbeats 1000000 in
theorem first_yes (p : Pc) (h : CRep w B c st vd vk vp (p :: ps)) (hl : p.data.length ≤ 100000) : Calls Try.prog 13 #[cptr c] w (FirstP w p) := by
  obtain ⟨gp, capp, rfl⟩ : ∃ g cap, vp = .slice (some ⟨g, 0, none⟩) (ps.length + 1) cap := by
    rcases h.row.2 with ⟨_, h0⟩ | ⟨g, cap, _, h, _⟩
    · simp at h0
    · exact ⟨g, cap, h⟩
  have H := hid h
  clear h
  have h2 := (H.out.kp0 (((Kp.refl [] w).alloc (.cells #[.int .i64 0, .slice none 0 0] 39))))
  have hrow : (w.alloc (.cells #[.int .i64 0, .slice none 0 0] 39)).ownsRow B 39 2 (.slice (some ⟨gp, 0, none⟩) (ps.length + 1) capp) (ps.length + 1) (pcs (p :: ps)) := h2.row
  have c5 := h2.c5
  have q0 : (w.alloc (.cells #[.int .i64 0, .slice none 0 0] 39)).cell? ⟨gp, 0, none⟩ = some (.int .i64 p.at_) := (hrow.cellAt 0 (by omega)).trans (by simp [pcs])
  have q1 : (w.alloc (.cells #[.int .i64 0, .slice none 0 0] 39)).cell? ⟨gp, 1, none⟩ = some p.v := (hrow.cellAt 1 (by omega)).trans (by simp [pcs])
  have hgp : gp < w.heap.size := (H.out.row.lt gp rfl).2
  obtain ⟨pa, pcap, hpv⟩ := rd_shape (H.out.pl p (by simp))
  have hpl := H.out.pl p (by simp)
  rw [hpv] at q1 hpl
  have hcl := H.out.lt
  have H2 := hid h2
  have HPL := hid hpl
  clear h2 hrow hpl
  go_enter Try.func13, Try.ntmps13
  go_wp2_with fail
  (with_reducible refine (dirty_any H2.out).mono ?_)
  rintro e w' ⟨rfl, rfl⟩
  go_upto_region 4 with (fail)
  have kk : Kp [] w ((w.alloc (.cells #[.int .i64 0, .slice none 0 0] 39)).alloc (.cells #[.int .i64 p.at_, .slice pa p.data.length pcap] 39)) := ((Kp.refl _ _).alloc _).alloc _
  have b1 : ((w.alloc (.cells #[.int .i64 0, .slice none 0 0] 39)).alloc (.cells #[.int .i64 p.at_, .slice pa p.data.length pcap] 39)).heap[w.heap.size]? = some (.cells #[.int .i64 0, .slice none 0 0] 39 (0, 0)) := by
    rw [heap_alloc_old _ _ (by simp)]; exact heap_alloc_new w _
  have b2 : ((w.alloc (.cells #[.int .i64 0, .slice none 0 0] 39)).alloc (.cells #[.int .i64 p.at_, .slice pa p.data.length pcap] 39)).heap[w.heap.size + 1]? = some (.cells #[.int .i64 p.at_, .slice pa p.data.length pcap] 39 (0, 0)) := by
    have := heap_alloc_new (w.alloc (.cells #[.int .i64 0, .slice none 0 0] 39)) (.cells #[.int .i64 p.at_, .slice pa p.data.length pcap] 39)
    simpa using this
  have HRB := hid (RdB.of (HPL.out.kp kk (by simp)))
  obtain ⟨g1, hg1⟩ : ∃ g1, g1 = w.heap.size := ⟨_, rfl⟩
  obtain ⟨g2, hg2⟩ : ∃ g2, g2 = w.heap.size + 1 := ⟨_, rfl⟩
  rw [← hg1] at b1 ⊢
  rw [show g1 + 1 = g2 by omega]
  rw [← hg2] at b2
  have h12 : g1 ≠ g2 := by omega
  generalize ((w.alloc (.cells #[.int .i64 0, .slice none 0 0] 39)).alloc (.cells #[.int .i64 p.at_, .slice pa p.data.length pcap] 39)) = w2 at *
  have cells2 : ∀ W, Kp [] w2 W → (W.cell? ⟨g2, 0, none⟩ = some (.int .i64 p.at_) ∧ W.cell? ⟨g2, 1, none⟩ = some (.slice pa p.data.length pcap)) ∧ (W.cell? ⟨g1, 0, none⟩ = some (.int .i64 0) ∧ W.cell? ⟨g1, 1, none⟩ = some (.slice none 0 0)) ∧ W.frozen? ⟨g1, 0, none⟩ = false ∧ W.frozen? ⟨g1, 1, none⟩ = false := by
    intro W hW
    have e1 := hW.heap (by simp) b1
    have e2 := hW.heap (by simp) b2
    simp [World.cell?, World.frozen?, e1, e2]
  obtain ⟨⟨a0, a1⟩, ⟨s0, s1⟩, f0, f1⟩ := cells2 w2 (Kp.refl _ _)
  have HCELLS := hid cells2
  have HCALL := hid (cloneB (w := w2.drew) (HRB.out.kp (Kp.refl [] w2).drew (by simp)) hl)
  have HG1 := hid hg1
  have HG2 := hid hg2
  have KK := hid kk
  clear b1 b2 cells2 hg1 hg2 kk c5 q0 q1
  go_region_law (go_simp; go_at_call 23; refine HCALL.out.mono ?_; rintro e w6 ⟨v6, rfl, ho6, hk6⟩; obtain ⟨a6, cap6, rfl⟩ := owns_shape ho6; obtain ⟨⟨m0, m1⟩, ⟨n0, n1⟩, o0, o1⟩ := HCELLS.out _ ((Kp.refl [] w2).drew.trans hk6))
  all_goals go_wp2
  all_goals
    have kk6 : Kp [] w w6 := (KK.out.drew).trans hk6
    have z0 : ((w6.setCell ⟨g1, 0, none⟩ (.int .i64 p.at_)).setCell ⟨g1, 1, none⟩ (.slice a6 p.data.length cap6)).cell? ⟨g1, 0, none⟩ = some (.int .i64 p.at_) := by simp [go_sem, n0]
    have z1 : ((w6.setCell ⟨g1, 0, none⟩ (.int .i64 p.at_)).setCell ⟨g1, 1, none⟩ (.slice a6 p.data.length cap6)).cell? ⟨g1, 1, none⟩ = some (.slice a6 p.data.length cap6) := by simp [go_sem, n1]
    refine bodyPost_ret (v := .tuple #[.agg #[.int .i64 p.at_, .slice a6 p.data.length cap6], .bool true]) (by simp [results, Try.results13, go_sem, z0, z1]) rfl ⟨_, rfl, ?_, (kk6.setCell (.inr (by simp; exact Nat.le_of_eq HG1.out.symm)) _).setCell (.inr (by simp; exact Nat.le_of_eq HG1.out.symm)) _⟩
    have hsz : w.heap.size ≤ w2.drew.heap.size := KK.out.size
    have hg1l : g1 < w2.drew.heap.size := by
      have := World.block_lt_of_cell? w2 _ s0
      exact this
    have hr := Rd.of_owns ho6
    refine (hr.kp (S := [g1]) (((Kp.refl _ w6).setCell (.inl (by simp)) _).setCell (.inl (by simp)) _) (fun g hg => ?_)).down hsz
    have := (hr.lt g hg).1
    simp; omega
end
end Go.Proofs.Ytnffhlbkigipmaa
