/- DERIVED. know and clip. -/
import Derived.Test.YtnffhlbkigipmaaH
namespace Go.Proofs.Ytnffhlbkigipmaa
open Go.RowKit Flo
def Gd (p : Nat × Nat) : Prop := p.1 < p.2 ∧ Lim p.2
theorem Gds.iff (L : List (Nat × Nat)) : Gds L ↔ ∀ p ∈ L, Gd p := by
  constructor
  · intro h p hp
    obtain ⟨i, hi', rfl⟩ := List.mem_iff_getElem.1 hp
    have h1 := h.lt i hi'
    have h2 := h.lim i hi'
    simp [lo, hi, List.getD, hi'] at h1 h2
    exact ⟨h1, h2⟩
  · intro h
    refine ⟨fun i hi' => ?_, fun i hi' => ?_⟩
    · have := (h _ (List.getElem_mem hi')).1; simpa [lo, hi, List.getD, hi'] using this
    · have := (h _ (List.getElem_mem hi')).2; simpa [lo, hi, List.getD, hi'] using this
theorem swp_gd {L : List (Nat × Nat)} {j : Nat} (hj : j + 1 < L.length) (h : ∀ p ∈ L, Gd p) : ∀ p ∈ swp L j, Gd p := by
  intro p hp
  unfold swp at hp
  rcases List.mem_or_eq_of_mem_set hp with hp | hp
  · rcases List.mem_or_eq_of_mem_set hp with hp | hp
    · exact h p hp
    · rw [hp]; simp [List.getD, show j < L.length by omega]; exact h _ (List.getElem_mem _)
  · rw [hp]; simp [List.getD, hj]; exact h _ (List.getElem_mem _)
theorem sink_gd (j : Nat) (L : List (Nat × Nat)) (hj : j < L.length) (h : ∀ p ∈ L, Gd p) : ∀ p ∈ sink j L, Gd p := by
  induction j generalizing L with
  | zero => exact h
  | succ j ih =>
    rw [sink]; split
    · exact ih _ (by rw [swp_len]; omega) (swp_gd hj h)
    · exact h
theorem isort_gds (k : Nat) (L : List (Nat × Nat)) (hk : k < L.length) (h : Gds L) : Gds (isort k L) := by
  rw [Gds.iff] at *
  induction k with
  | zero => exact h
  | succ k ih => rw [isort]; exact sink_gd _ _ (by rw [isort_keeps]; exact hk) (ih (by omega))
/-- A set joined to one stretch. -/
def addK (kn : List (Nat × Nat)) (a b : Nat) : List (Nat × Nat) := joinF (isort kn.length (kn ++ [(a, b)]))
/-- c.know(a, b) -/
def knowC (st : CS) (a b : Nat) : CS := { st with kn := if a < b then addK st.kn a b else st.kn }
def clipC (st : CS) : CS := { st with kn := lessF st.kn [(st.size, 9729)] }
theorem rd_lt_ne {w : World} {base : Nat} {v : Value} {n : Nat} {xs : List Value} (h : Rd w base v n xs) {k : Nat} (hk : k < base) : v.ownBlock ≠ some k := by
  intro e; have := (h.lt k e).1; omega
theorem rd_shape {w : World} {base : Nat} {v : Value} {n : Nat} {xs : List Value} (h : Rd w base v n xs) : ∃ a cap, v = .slice a n cap := by
  rcases h with ⟨rfl, rfl, _⟩ | ⟨g, cap, h, _⟩
  · exact ⟨none, 0, rfl⟩
  · exact ⟨_, _, h⟩
theorem owns_shape {w : World} {base : Nat} {e : TypeId} {sz : Nat} {v : Value} {n : Nat} {xs : List Value} (h : w.ownsRow base e sz v n xs) : ∃ a cap, v = .slice a n cap := by
  rcases h.2 with ⟨rfl, rfl⟩ | ⟨g, cap, _, h, _⟩
  · exact ⟨none, 0, rfl⟩
  · exact ⟨_, _, h⟩
section
variable {w : World} {B c : Nat} {st : CS} {vd vk vp : Value} {ps : List Pc}
/-- What a call that changes the known stretches alone leaves. -/
def NewK (w : World) (B c : Nat) (st : CS) (vd vp : Value) (ps : List Pc) (e : Ending) (w' : World) : Prop :=
  ∃ vk', e = .returned (.tuple #[]) ∧ CRep w' B c st vd vk' vp ps ∧ Kp [c] w w'
theorem CRep.setK {w1 : World} {L : List (Nat × Nat)} {v3 : Value} (h : CRep w B c st vd vk vp ps) (k : Kp [] w w1) (hr : Rd w1 w.heap.size v3 L.length (zcs L)) (hl : c < w.heap.size) :
    CRep (w1.setCell ⟨c, 4, none⟩ v3) B c { st with kn := L } vd v3 vp ps ∧ Kp [c] w (w1.setCell ⟨c, 4, none⟩ v3) := by
  have hk2 : Kp [c] w (w1.setCell ⟨c, 4, none⟩ v3) := (k.mono (by simp)).setCell (.inl (by simp)) _
  have h1 : w1.heap[c]? = some (.cells (cblk st vd vk vp) 46 (0, 0)) := k.heap (by simp) h.blk
  have hB : B ≤ w.heap.size := by have := h.hB; omega
  refine ⟨h.set hk2 (heap_setCell_same h1 _) rfl rfl ((hr.kp ((Kp.refl [c] _).setCell (.inl (by simp)) _) (fun g hg => by simp; intro e; have := (hr.lt g hg).1; omega)).down hB) (rd_lt_ne hr hl) (fun g hg => ?_), hk2⟩
  have hg1 := (hr.lt g hg).1
  refine ⟨fun e => ?_, fun e => ?_⟩
  · have := (h.dat.lt g e).2; omega
  · have := (h.row.lt g e).2; omega
set_option maxRecDepth 100000 in
set_option maxHeartbeats 400000 in
theorem know_yes (a b : Int) (h : CRep w B c st vd vk vp ps) (h0 : 0 ≤ a) (h1 : a < b) (h2 : b ≤ 9729) (hk : Gds st.kn) (hn : st.kn.length ≤ 3) :
    Calls Try.prog 22 #[cptr c, .int .i64 a, .int .i64 b] w (NewK w B c (knowC st a.toNat b.toNat) vd vp ps) := by
  have c4 := h.c4
  have f4 := h.fr 4
  have hcl := h.lt
  have hg : Gds (st.kn ++ [(a.toNat, b.toNat)]) := by
    rw [Gds.iff] at *
    intro p hp
    rcases List.mem_append.1 hp with hp | hp
    · exact hk p hp
    · simp at hp; subst hp; exact ⟨by simp; omega, by unfold Lim; simp; omega⟩
  have hne : st.kn ++ [(a.toNat, b.toNat)] ≠ [] := by simp
  have hlen : (st.kn ++ [(a.toNat, b.toNat)]).length = st.kn.length + 1 := by simp
  have hG := isort_gds st.kn.length _ (by simp) hg
  have H := hid h
  have HG := hid hg
  have HN := hid hne
  have HL := hid hlen
  have HGS := hid hG
  clear h hk hg hne hlen hG
  go_enter Try.func22, Try.ntmps22
  go_wp2_with fail
  (with_reducible refine (make_ok _ _ h0 h1 (by omega) _).mono ?_)
  rintro e w' ⟨rfl, rfl⟩
  go_wp2_with fail
  (with_reducible refine (cloneZ H.out.kn (by omega)).mono ?_)
  rintro e w1 ⟨v1, rfl, ho, hk⟩
  have HO1 := hid ho
  have HK1 := hid hk
  have d4 := hk.cell (p := ⟨c, 4, none⟩) (by simp) c4
  clear ho hk
  go_wp2_with (at_builtin; refine app52 rfl (.tmp 22) (.tmp 24) rfl w.heap.size _ st.kn.length (zcs st.kn) rfl (HO1.out.alloc _) ⟨w1.heap.size, 0, none⟩ 1 1 [zc a.toNat b.toNat] rfl rfl cell_one one_zc (by omega) (by have := HK1.out.size; simp; omega) ?_)
  intro v2 w2 ho hgrow _
  have hk := (HK1.out.alloc (.cells #[zc a.toNat b.toNat] 52)).grown hgrow (fun k hk => .inr ((HO1.out.lt k hk).1))
  rw [zcs_append _ (a.toNat, b.toNat), ← HL.out] at ho
  have HO2 := hid (Rd.of_owns ho)
  have HK2 := hid hk
  clear ho hk hgrow HO1 HK1 d4
  go_wp2_with fail
  (with_reducible refine (join_some (S := isort st.kn.length (st.kn ++ [(a.toNat, b.toNat)])) HO2.out HN.out (by rw [HL.out]; omega) HG.out.lims (by rw [HL.out, Nat.add_sub_cancel]) HGS.out).mono ?_)
  rintro e w3 ⟨v3, rfl, hr, hk⟩
  obtain ⟨a3, cap3, rfl⟩ := rd_shape hr
  have HK3 : Hid (Kp [] w w3) := HK2.out.trans hk
  have HR3 : Hid (Rd w3 w.heap.size (.slice a3 _ cap3) _ _) := hr.down HK2.out.size
  have d4 := HK3.out.cell (p := ⟨c, 4, none⟩) (by simp) c4
  have e4 : w3.frozen? ⟨c, 4, none⟩ = false := (H.out.kp0 HK3.out).fr 4
  clear hr hk HK2 HO2 c4 f4
  go_wp2
  go_end0
  obtain ⟨r1, r2⟩ := H.out.setK HK3.out HR3.out hcl
  have e : knowC st a.toNat b.toNat = { st with kn := joinF (isort st.kn.length (st.kn ++ [(a.toNat, b.toNat)])) } := by
    unfold knowC addK; rw [if_pos (by omega)]
  rw [e]
  exact ⟨_, rfl, r1, r2⟩
set_option maxRecDepth 100000 in
set_option maxHeartbeats 400000 in
theorem know_no (c : Nat) (w : World) (a b : Int) (h1 : b ≤ a) :
    Calls Try.prog 22 #[cptr c, .int .i64 a, .int .i64 b] w fun e w' => e = .returned (.tuple #[]) ∧ w = w' := by
  go_enter Try.func22, Try.ntmps22
  go_wp2_with fail
  (with_reducible refine (make_no _ _ (.inr (.inr h1)) _).mono ?_)
  rintro e w' ⟨rfl, rfl⟩
  go_wp2
  go_end0
  exact ⟨rfl, rfl⟩
set_option maxRecDepth 100000 in
set_option maxHeartbeats 400000 in
theorem clip_any (h : CRep w B c st vd vk vp ps) (hk : Snd st.kn) (hn : st.kn.length ≤ 3) (hz : st.size ≤ 9728) : Calls Try.prog 21 #[cptr c] w (NewK w B c (clipC st) vd vp ps) := by
  have c2 := h.c2
  have c4 := h.c4
  have hcl := h.lt
  have hS : Snd [(st.size, 9729)] := ⟨fun i hi' => by simp at hi'; subst hi'; simp [lo, hi]; omega, fun i hi' => by simp at hi'; subst hi'; simp [hi, Lim], fun i hi' => by simp at hi'⟩
  obtain ⟨ak, capk, rfl⟩ := rd_shape h.kn
  have H := hid h
  have HS := hid hS
  have HK := hid hk
  clear h hk hS
  go_enter Try.func21, Try.ntmps21
  go_wp2_with fail
  (with_reducible refine (make_ok _ _ (by omega) (by omega) (by omega) _).mono ?_)
  rintro e w' ⟨rfl, rfl⟩
  have hone : (w.alloc (.cells #[zc st.size 9729] 52)).cell? ⟨w.heap.size, 0, none⟩ = some (zc st.size 9729) := by rw [World.cell?_alloc_at _ _ _ _ rfl]; rfl
  have HZ : Hid (Rd (w.alloc (.cells #[zc st.size 9729] 52)) w.heap.size (.slice (some ⟨w.heap.size, 0, none⟩) 1 1) [(st.size, 9729)].length (zcs [(st.size, 9729)])) := by
    refine .inr ⟨w.heap.size, 1, rfl, Nat.le_refl _, by simp, fun j u hu => ?_⟩
    match j, hu with
    | 0, hu => simp [zcs] at hu; subst hu; exact hone
  have HRK : Hid (Rd (w.alloc (.cells #[zc st.size 9729] 52)) B _ _ _) := H.out.kn.kp ((Kp.refl [] _).alloc _) (by simp)
  clear hone
  go_wp2_with fail
  (with_reducible refine (less_any HRK.out HZ.out HK.out HS.out (by omega) (by simp)).mono ?_)
  rintro e w3 ⟨v3, rfl, hr, hk⟩
  obtain ⟨a3, cap3, rfl⟩ := rd_shape hr
  have HK3 : Hid (Kp [] w w3) := ((Kp.refl [] _).alloc _).trans hk
  have HR3 : Hid (Rd w3 w.heap.size (.slice a3 _ cap3) _ _) := hr.down (by simp)
  have d4 := HK3.out.cell (p := ⟨c, 4, none⟩) (by simp) c4
  have e4 : w3.frozen? ⟨c, 4, none⟩ = false := (H.out.kp0 HK3.out).fr 4
  clear hr hk c4 c2
  go_wp2
  go_end0
  obtain ⟨r1, r2⟩ := H.out.setK HK3.out HR3.out hcl
  exact ⟨_, rfl, r1, r2⟩
end
end Go.Proofs.Ytnffhlbkigipmaa
