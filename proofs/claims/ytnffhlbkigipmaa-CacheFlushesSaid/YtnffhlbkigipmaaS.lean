/- DERIVED. Flushed. -/
import Derived.Test.YtnffhlbkigipmaaR
namespace Go.Proofs.Ytnffhlbkigipmaa
open Go.RowKit Flo
theorem app39 {w : World} {ops : Array Oper} {rest : List Oper} {o : Oper} {a : Act} {Q : Exit → Act → World → Prop} (hg : o.guard = none) (s x : Operand)
    (hop : o.op = Op.call { callee := Callee.builtin Builtin.append, args := #[s, x], argTypes := #[44, 44] }) (base : Nat) (v : Value) (n : Nat) (xs : List Value) (hs : a.eval s = v)
    (hown : w.ownsRow base 39 2 v n xs) (ad : Addr) (m c : Nat) (news : List Value) (hx : a.eval x = Value.slice (some ad) m c) (hn : news.length = m * 2)
    (hc : ∀ (j : Nat) (u : Value), news[j]? = some u → w.cell? (ad.add j) = some u) (h1 : ∀ u ∈ news, u.oneCell' = true) (small : n + m ≤ 1000) (hb : base ≤ w.heap.size)
    (hK : ∀ (v' : Value) (w' : World), w'.ownsRow base 39 2 v' (n + m) (xs ++ news) → w.grownBy w' v.ownBlock → (v' = Value.slice none 0 0 ↔ v = Value.slice none 0 0 ∧ m = 0) → wpList Try.prog ops Q rest (a.put o.dst v') w') :
    wpList Try.prog ops Q (o :: rest) a w := by
  obtain ⟨i0, hi, hz0, hz1, hz2⟩ := info_parts Try.info39
  exact wpList_append_own w hg s x 44 hop base 39 i0 _ 2 32 Try.underlying44 hi hz0 hz1 hz2 rfl (by decide) v n xs hs hown ad m c news hx hn hc h1 (by unfold maxLen; omega) (by omega) hb hK
theorem pcs_one (ps : List Pc) (h : ∀ p ∈ ps, ∃ a n cap, p.v = .slice a n cap) : ∀ u ∈ pcs ps, u.oneCell' = true := by
  intro u hu
  simp only [pcs, List.mem_flatMap] at hu
  obtain ⟨p, hp, hu⟩ := hu
  obtain ⟨a, n, cap, hv⟩ := h p hp
  rw [hv] at hu
  simp at hu
  rcases hu with rfl | rfl <;> rfl
def NewP (w : World) (ps : List Pc) (e : Ending) (w' : World) : Prop := ∃ v', e = .returned v' ∧ w'.ownsRow w.heap.size 39 2 v' ps.length (pcs ps) ∧ Kp [] w w'
set_option maxRecDepth 100000 in
set_option maxHeartbeats 400000 in
theorem cloneP_some (g o cap : Nat) (ps : List Pc) (w : World) (hL : ps.length ≤ 100) (hg : g < w.heap.size) (h1 : ∀ p ∈ ps, ∃ a n cap, p.v = .slice a n cap) (hc : ∀ j u, (pcs ps)[j]? = some u → w.cell? ⟨g, o + j, none⟩ = some u) :
    Calls Try.prog 28 #[.slice (some ⟨g,o,none⟩) ps.length cap] w (NewP w ps) := by
  have hnil := fun (w : World) a n c => Lib.run_eql_slice_nil (P := Try.prog) w 44 39 a n c 0 0 Try.underlying44
  have hc' : ∀ (j : Nat) (u : Value), (pcs ps)[j]? = some u → (w.alloc (.cells #[] 39)).cell? ((⟨g, o, none⟩ : Addr).add j) = some u := fun j u h => cell_row (by rw [World.cell?_alloc_past _ _ _ hg]; exact hc j u h)
  have HC := hid hc'
  have H1 := hid (pcs_one ps h1)
  clear hc hc' h1
  go_enter Try.func28, Try.ntmps28
  go_wp2_with (at_builtin; refine app39 rfl (.tmp 5) (.tmp 6) rfl w.heap.size _ 0 [] rfl (World.ownsRow_made w #[] 0 (Nat.le_refl _) (by decide) rfl) ⟨g, o, none⟩ ps.length cap (pcs ps) rfl (pcs_len ps) HC.out H1.out (by omega) (by simp) ?_)
  intro v' w' hown hgrow _
  go_wp2
  go_ret
  refine ⟨v', rfl, by simpa using hown, ((Kp.refl _ _).alloc _).grown hgrow (by intro k hk; cases hk; simp)⟩
theorem cloneP_zero (g o cap : Nat) (w : World) (hg : g < w.heap.size) : Calls Try.prog 28 #[.slice (some ⟨g,o,none⟩) 0 cap] w (NewP w []) :=
  cloneP_some g o cap [] w (by simp) hg (fun p hp => by simp at hp) (fun j u hu => by simp [pcs] at hu)
/-- The pieces are others. -/
theorem CRep.setP {w w1 : World} {B c : Nat} {st : CS} {vd vk vp v' : Value} {ps : List Pc} {p : Pc} (h : CRep w B c st vd vk vp (p :: ps)) (k : Kp [] w w1) (ho : w1.ownsRow w.heap.size 39 2 v' ps.length (pcs ps)) :
    CRep (w1.setCell ⟨c, 5, none⟩ v') B c { st with dirty := st.dirty.tail } vd vk v' ps ∧ Kp [c] w (w1.setCell ⟨c, 5, none⟩ v') := by
  have hcl := h.lt
  have hB : B ≤ w.heap.size := by have := h.hB; omega
  have h1 := h.kp0 k
  have k2 : Kp [c] w (w1.setCell ⟨c, 5, none⟩ v') := (k.mono (by simp)).setCell (.inl (by simp)) _
  have k3 : Kp [c] w1 (w1.setCell ⟨c, 5, none⟩ v') := (Kp.refl _ _).setCell (.inl (by simp)) _
  have nin : ∀ {v : Value}, v.ownBlock ≠ some c → ∀ g, v.ownBlock = some g → g ∉ [c] := by
    intro v h1 g hg hm
    simp at hm; subst hm; exact h1 hg
  have hv : ∀ g, v'.ownBlock = some g → w.heap.size ≤ g := fun g hg => (ho.lt g hg).1
  refine ⟨{ hB := h.hB, blk := ?_, dat := h.dat.kp k2 (nin h.cd), kn := h.kn.kp k2 (nin h.ck), row := ?_, dy := by simp [h.dy], pl := fun q hq => (h.pl q (by simp [hq])).kp k2 (nin (h.cq q (by simp [hq]))), cd := h.cd, ck := h.ck, cp := fun e => by have := hv c e; omega, cq := fun q hq => h.cq q (by simp [hq]), dk := ?_, pk := ?_ }, k2⟩
  · rw [heap_setCell_same h1.blk]; simp [cblk]
  · exact (ho.kp k3 (fun g hg => by have := hv g hg; simp; omega)).down hB
  · intro g hg
    refine ⟨(h.dk g hg).1, fun e => ?_, fun q hq => (h.dk g hg).2.2 q (by simp [hq])⟩
    have := hv g e; have := (h.dat.lt g hg).2; omega
  · intro g hg
    have h2 := hv g hg
    refine ⟨fun e => ?_, fun q hq e => ?_⟩
    · have := (h.kn.lt g e).2; omega
    · have := ((h.pl q (by simp [hq])).lt g e).2; omega
section
variable {w : World} {B c : Nat} {st : CS} {vd vk vp : Value} {ps : List Pc}
def FlushP (w : World) (B c : Nat) (st : CS) (vd vk : Value) (ps : List Pc) (e : Ending) (w' : World) : Prop :=
  ∃ vp', e = .returned (.tuple #[]) ∧ CRep w' B c st vd vk vp' ps ∧ Kp [c] w w' ∧ ∀ g, vp'.ownBlock = some g → w.heap.size ≤ g
set_option maxRecDepth 100000 in
set_option maxHeartbeats 400000 in
theorem flushed_any (p : Pc) (h : CRep w B c st vd vk vp (p :: ps)) (hps : ps.length ≤ 50) : Calls Try.prog 14 #[cptr c] w (FlushP w B c { st with dirty := st.dirty.tail } vd vk ps) := by
  obtain ⟨gp, capp, rfl⟩ : ∃ g cap, vp = .slice (some ⟨g, 0, none⟩) (ps.length + 1) cap := by
    rcases h.row.2 with ⟨_, h0⟩ | ⟨g, cap, _, h, _⟩
    · simp at h0
    · exact ⟨g, cap, h⟩
  have hcap : ps.length + 1 ≤ capp := by
    rcases h.row.2 with ⟨h, _⟩ | ⟨g, cap, _, h, _, _, hc, _⟩
    · cases h
    · cases h; simpa using hc
  have hmax : capp ≤ 9223372036854775807 := by
    rcases h.row.2 with ⟨h, _⟩ | ⟨g, cap, _, h, _, _, _, hc, _⟩
    · cases h
    · cases h; unfold maxLen at hc; omega
  have c5 := h.c5
  have f5 := h.fr 5
  have hrow : w.ownsRow B 39 2 (.slice (some ⟨gp, 0, none⟩) (ps.length + 1) capp) (ps.length + 1) (pcs (p :: ps)) := h.row
  have hcells : ∀ j u, (pcs ps)[j]? = some u → w.cell? ⟨gp, 2 + j, none⟩ = some u := by
    intro j u hu
    have hj : j < ps.length * 2 := by rw [← pcs_len]; exact (List.getElem?_eq_some_iff.1 hu).1
    rw [hrow.cellAt (2 + j) (by omega), ← hu]
    simp [pcs, Nat.add_comm 2 j]
  have hgp : gp < w.heap.size := (h.row.lt gp rfl).2
  have hsh : ∀ q ∈ ps, ∃ a n cap, q.v = .slice a n cap := fun q hq => by obtain ⟨a, cap, e⟩ := rd_shape (h.pl q (by simp [hq])); exact ⟨a, _, cap, e⟩
  have H := hid h
  have HC := hid hcells
  have HS := hid hsh
  clear h hrow hcells hsh
  by_cases hone : capp = 1
  · subst hone
    obtain rfl : ps = [] := by have : ps.length = 0 := by omega
                               simpa using this
    go_enter Try.func14, Try.ntmps14
    go_wp2_with fail
    (with_reducible refine (dirty_any H.out).mono ?_)
    rintro e w' ⟨rfl, rfl⟩
    go_wp2_with fail
    (with_reducible refine (cloneP_zero gp 0 _ _ hgp).mono ?_)
    rintro e w1 ⟨v', rfl, ho, hk⟩
    obtain ⟨a', cap', rfl⟩ := owns_shape ho
    have d5 := hk.cell (p := ⟨c, 5, none⟩) (by simp) c5
    have e5 := (H.out.kp0 hk).fr 5
    have HO := hid ho
    have HK := hid hk
    clear ho hk c5 f5
    go_wp2
    go_end0
    obtain ⟨r1, r2⟩ := H.out.setP HK.out HO.out
    exact ⟨_, rfl, r1, r2, fun g hg => (HO.out.lt g hg).1⟩
  · have hone2 : 1 < capp := by omega
    go_enter Try.func14, Try.ntmps14
    go_wp2_with fail
    (with_reducible refine (dirty_any H.out).mono ?_)
    rintro e w' ⟨rfl, rfl⟩
    go_wp2_with fail
    (with_reducible refine (cloneP_some gp 2 _ ps _ (by omega) hgp HS.out HC.out).mono ?_)
    rintro e w1 ⟨v', rfl, ho, hk⟩
    obtain ⟨a', cap', rfl⟩ := owns_shape ho
    have d5 := hk.cell (p := ⟨c, 5, none⟩) (by simp) c5
    have e5 := (H.out.kp0 hk).fr 5
    have HO := hid ho
    have HK := hid hk
    clear ho hk c5 f5
    go_wp2
    go_end0
    obtain ⟨r1, r2⟩ := H.out.setP HK.out HO.out
    exact ⟨_, rfl, r1, r2, fun g hg => (HO.out.lt g hg).1⟩
end
end Go.Proofs.Ytnffhlbkigipmaa
