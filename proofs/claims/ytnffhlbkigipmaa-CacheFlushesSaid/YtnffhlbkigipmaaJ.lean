/- DERIVED. grow. -/
import Derived.Test.YtnffhlbkigipmaaI
import Derived.Lib.AppendZerosOnto
namespace Go.Proofs.Ytnffhlbkigipmaa
open Go.RowKit Flo
theorem zeroCells_u8 (k : Nat) : Builtin.zeroCells #[Value.int .u8 0] k = (List.replicate k (Value.int .u8 0)).toArray := by
  apply Array.ext
  · simp [Builtin.zeroCells]
  · intro i h1 h2; simp [Builtin.zeroCells, Nat.mod_one]
theorem Try.info5 : (Try.prog.info? 5).map (fun i => (i.zero, i.size, i.bytes)) = some (some (.int .u8 0), 1, 1) := by kernel_rfl
theorem cells_u8 : (Value.int .u8 0).cells = #[Value.int .u8 0] := rfl
theorem run_zeros_own (w : World) (base : Nat) (v : Value) (n k : Nat) (xs : List Value) (hown : w.ownsRow base 5 1 v n xs) (hk : 0 < k) (small : n + k ≤ 1000000) (hb : base ≤ w.heap.size) :
    ∃ v' w', (Builtin.append_ #[23, 3] 23 #[v, .int .i64 k]).run Try.prog w = .ok v' w' ∧ w'.ownsRow base 5 1 v' (n + k) (xs ++ List.replicate k (.int .u8 0)) ∧ w.grownBy w' v.ownBlock ∧ (v'.ownBlock = v.ownBlock ∨ v'.ownBlock = some w.heap.size) := by
  obtain ⟨i0, hi, hz0, hz1, hz2⟩ := info_parts Try.info5
  have hx : xs.length = n := by simpa using hown.1
  have grown : ∀ (old : Nat), old < n + k → ∀ (row : Option Nat),
      (w.drew.alloc (.cells (xs.toArray ++ Builtin.zeroCells (Value.int .u8 0).cells k ++ Builtin.zeroCells (Value.int .u8 0).cells (grownCap w (n + k) old 5 - (n + k))) 5)).ownsRow base 5 1
        (.slice (some ⟨w.heap.size, 0, none⟩) (n + k) (grownCap w (n + k) old 5)) (n + k) (xs ++ List.replicate k (.int .u8 0)) ∧
      w.grownBy (w.drew.alloc (.cells (xs.toArray ++ Builtin.zeroCells (Value.int .u8 0).cells k ++ Builtin.zeroCells (Value.int .u8 0).cells (grownCap w (n + k) old 5 - (n + k))) 5)) row := by
    intro old ho row
    have hge := grownCap_ge w (n + k) old 5
    have hcm : grownCap w (n + k) old 5 ≤ maxLen := grownCap_le_maxLen w (n + k) old 5 (by unfold maxLen; omega)
    refine ⟨⟨by simp [hx], .inr ⟨w.heap.size, _, _, rfl, hb, heap_alloc_new w.drew _, hge, hcm, ?_, ?_⟩⟩, ⟨rfl, rfl, rfl, by simp, fun k hk _ => heap_alloc_old w.drew _ hk⟩⟩
    · simp only [cells_u8, zeroCells_u8, Array.size_append, List.size_toArray, List.length_replicate, hx]; omega
    · simp only [cells_u8, zeroCells_u8, Array.toList_append, Nat.mul_one]
      have e : n + k = (xs ++ List.replicate k (Value.int .u8 0)).length := by simp [hx]
      rw [e]
      exact List.take_left
  rcases hown.2 with ⟨rfl, rfl⟩ | ⟨g, cap, cur, rfl, hbg, hg, hnc, hcm, hcs, htake⟩
  · have hx0 : xs = [] := by simpa using hx
    subst hx0
    have hr := Lib.run_append_grow_zeros (P := Try.prog) w 23 3 23 5 i0 (.int .u8 0) .i64 .i64 Try.underlying23 Try.underlying3 hi hz0 none 0 0 [] (by simp [run_firstCells_none]) k hk (by omega) (by omega) (by omega) (by rw [hz2]; omega) (by
      have := nextslicecap_le (need := 0 + k) (old := 0) (by omega); rw [hz2]; omega)
    have hgr := grown 0 (by omega) none
    exact ⟨_, _, hr, hgr.1, hgr.2, .inr rfl⟩
  · by_cases hroom : n + k ≤ cap
    · have hst := run_storeCells_at Try.prog g n 5 (List.replicate k (Value.int .u8 0)) 0 cur w hg (by simp; omega) (by intro v hv; rw [List.eq_of_mem_replicate hv]; rfl)
      refine ⟨.slice (some ⟨g, 0, none⟩) (n + k) cap, w.setRow g (cur.toList.take n ++ List.replicate k (Value.int .u8 0) ++ cur.toList.drop (n + k)).toArray, ?_, ⟨by simp [hx], .inr ⟨g, cap, _, rfl, hbg, setRow_heap w g cur _ 5 _ hg, hroom, hcm, ?_, ?_⟩⟩, ⟨rfl, rfl, rfl, by simp, fun k _ hk => setRow_other w g k _ (fun e => hk (by simp [Value.ownBlock, e]))⟩, .inl rfl⟩
      · have hwk : IntKind.i64.wrap (k : Int) = k := by rw [IntKind.wrap_i64]; omega
        have hneg : ¬ ((k : Int) < 0) := by omega
        have h48i : ¬ (281474976710656 < (k : Int) * (i0.bytes : Int)) := by rw [hz2]; omega
        have hk0 : ¬ (k = 0) := by omega
        simp only [Nat.add_zero, List.length_replicate] at hst
        simp [Builtin.append_, run_underlying Try.underlying23, run_underlying Try.underlying3, sizeOf, typeInfo, zeroValue, hi, hz0, hz1, asInt, asIntOf, hwk, hneg, h48i, hroom, hk0, Question.forced, Addr.add_lit, cells_u8, zeroCells_u8, hst]
      · simp at hcs ⊢; omega
      · simp at hcs htake ⊢
        rw [htake]
        have e : n + k = (xs ++ List.replicate k (Value.int .u8 0)).length := by simp [hx]
        rw [← List.append_assoc, e]
        exact List.take_left
    · have holds := hown.cells (g := g) rfl
      have hr := Lib.run_append_grow_zeros (P := Try.prog) w 23 3 23 5 i0 (.int .u8 0) .i64 .i64 Try.underlying23 Try.underlying3 hi hz0 (some ⟨g, 0, none⟩) n cap xs (by
        rw [hz1]; exact run_firstCells_some w.drew 1 n ⟨g, 0, none⟩ n cap xs (by omega) holds) k hk (by omega) (by omega) (by omega) (by rw [hz2]; omega) (by
        have := nextslicecap_le (need := n + k) (old := cap) (by omega); rw [hz2]; omega)
      have hgr := grown cap (by omega) (some g)
      exact ⟨_, _, hr, hgr.1, hgr.2, .inr rfl⟩

theorem bts_zero (k : Nat) : bts (List.replicate k 0) = List.replicate k (Value.int .u8 0) := by simp [bts]
/-- Blocks that a cache may have written, or has as its own. -/
def foot (c : Nat) (vd vp : Value) : List Nat := c :: (vd.ownBlock.toList ++ vp.ownBlock.toList)
theorem mem_foot {c : Nat} {vd vp : Value} {k : Nat} : k ∈ foot c vd vp ↔ k = c ∨ vd.ownBlock = some k ∨ vp.ownBlock = some k := by
  simp [foot, Option.mem_toList, eq_comm]
section
variable {w : World} {B c : Nat} {st st' : CS} {vd vd' vk vp : Value} {ps : List Pc}
/-- The bytes are others, or elsewhere. -/
theorem CRep.setD {w1 w2 : World} (h : CRep w B c st vd vk vp ps) (hg : w.grownBy w1 vd.ownBlock) (h2 : w2 = w1.setCell ⟨c, 3, none⟩ vd') (ho : w1.ownsRow B 5 1 vd' st'.dat.length (bts st'.dat))
    (hv : vd'.ownBlock = vd.ownBlock ∨ vd'.ownBlock = some w.heap.size) (e1 : st'.mode = st.mode) (e2 : st'.since = st.since) (e3 : st'.size = st.size) (e4 : st'.kn = st.kn) (e5 : st'.dirty = st.dirty) (e6 : st'.lost = st.lost) :
    CRep w2 B c st' vd' vk vp ps ∧ Kp (foot c vd vp) w w2 := by
  subst h2
  have hl := h.lt
  have nc : vd'.ownBlock ≠ some c := by
    rcases hv with e | e
    · rw [e]; exact h.cd
    · rw [e]; simp; omega
  have k1 : Kp vd.ownBlock.toList w w1 := (Kp.refl _ _).grown hg (fun k hk => .inl (by simp [hk]))
  have h1 : w1.heap[c]? = some (.cells (cblk st vd vk vp) 46 (0, 0)) := k1.heap (by simp; exact fun e => h.cd e) h.blk
  have k2 : Kp (c :: vd.ownBlock.toList) w (w1.setCell ⟨c, 3, none⟩ vd') := (k1.mono (fun n hn => .inl (List.mem_cons_of_mem _ hn))).setCell (.inl (by simp)) _
  have nin : ∀ {v : Value}, v.ownBlock ≠ some c → (∀ g, v.ownBlock = some g → vd.ownBlock ≠ some g) → ∀ g, v.ownBlock = some g → g ∉ c :: vd.ownBlock.toList := by
    intro v h1 h2 g hg hm
    rcases List.mem_cons.1 hm with e | e
    · subst e; exact h1 hg
    · exact h2 g hg (by simpa using e)
  have hdk : ∀ g, vk.ownBlock = some g → vd.ownBlock ≠ some g := fun g hg e => (h.dk g e).1 hg
  have hdp : ∀ g, vp.ownBlock = some g → vd.ownBlock ≠ some g := fun g hg e => (h.dk g e).2.1 hg
  have hdq : ∀ p ∈ ps, ∀ g, p.v.ownBlock = some g → vd.ownBlock ≠ some g := fun p hp g hg e => (h.dk g e).2.2 p hp hg
  refine ⟨{ hB := h.hB, blk := ?_, dat := ?_, kn := ?_, row := h.row.kp k2 (nin h.cp hdp), dy := e5.trans h.dy, pl := fun p hp => (h.pl p hp).kp k2 (nin (h.cq p hp) (hdq p hp)), cd := nc, ck := h.ck, cp := h.cp, cq := h.cq, dk := fun g hg => ?_, pk := h.pk }, k2.mono ?_⟩
  · rw [heap_setCell_same h1]; simp [cblk, e1, e2, e3, e6]
  · exact ho.kp ((Kp.refl [c] _).setCell (.inl (by simp)) _) (fun g hg => by simp; intro e; subst e; exact nc hg)
  · rw [e4]; exact h.kn.kp k2 (nin h.ck hdk)
  · rcases hv with e | e
    · exact h.dk g (e ▸ hg)
    · rw [e] at hg; cases hg
      refine ⟨fun e => ?_, fun e => ?_, fun p hp e => ?_⟩
      · have := (h.kn.lt _ e).2; omega
      · have := (h.row.lt _ e).2; omega
      · have := ((h.pl p hp).lt _ e).2; omega
  · intro n hn
    rw [mem_foot]
    rcases List.mem_cons.1 hn with e | e
    · exact .inl (.inl e)
    · exact .inl (.inr (.inl (by simpa using e)))
/-- c.grow(n) -/
def growC (st : CS) (n : Nat) : CS := { st with dat := st.dat ++ List.replicate (n - st.dat.length) 0 }
/-- What a call leaves that changes the bytes alone. -/
def NewD (w : World) (c : Nat) (B : Nat) (st : CS) (vd vk vp : Value) (ps : List Pc) (e : Ending) (w' : World) : Prop :=
  ∃ vd', e = .returned (.tuple #[]) ∧ CRep w' B c st vd' vk vp ps ∧ Kp (foot c vd vp) w w' ∧ (vd'.ownBlock = vd.ownBlock ∨ vd'.ownBlock = some w.heap.size)
set_option maxRecDepth 100000 in
set_option maxHeartbeats 400000 in
theorem grow_any (n : Nat) (h : CRep w B c st vd vk vp ps) (hn : n ≤ 20000) (hd : st.dat.length ≤ 20000) : Calls Try.prog 20 #[cptr c, .int .i64 n] w (NewD w c B (growC st n) vd vk vp ps) := by
  have c3 := h.c3
  have f3 := h.fr 3
  have hcl := h.lt
  have hB : B ≤ w.heap.size := by have := h.hB; omega
  have H := hid h
  obtain ⟨ad, capd, rfl⟩ := owns_shape h.dat
  clear h
  by_cases hle : n ≤ st.dat.length
  · go_enter Try.func20, Try.ntmps20
    go_wp2
    go_end0
    have e : growC st n = st := by unfold growC; rw [Nat.sub_eq_zero_of_le hle]; simp
    rw [e]
    exact ⟨_, rfl, H.out, Kp.refl _ _, .inl rfl⟩
  · obtain ⟨k, hk⟩ : ∃ k, n = st.dat.length + k := ⟨n - st.dat.length, by omega⟩
    obtain ⟨v', w1, hr, ho, hg, hv⟩ := run_zeros_own w B _ _ k _ H.out.dat (by omega) (by omega) hB
    obtain ⟨a', cap', rfl⟩ := owns_shape ho
    have k1 : Kp (Value.slice ad st.dat.length capd).ownBlock.toList w w1 := (Kp.refl _ _).grown hg (fun k hk => .inl (by simp [hk]))
    have d3 := k1.cell (p := ⟨c, 3, none⟩) (by simp; exact fun e => H.out.cd e) c3
    have e3 : w1.frozen? ⟨c, 3, none⟩ = false := by
      have := k1.heap (k := c) (by simp; exact fun e => H.out.cd e) H.out.blk
      simp [World.frozen?, this]
    have HR := hid hr
    have HO := hid ho
    have HG := hid hg
    have HV := hid hv
    have HK := hid hk
    have hx : (n : Int) - (st.dat.length : Int) = ((k : Nat) : Int) := by omega
    have HX := hid hx
    clear hr ho hg hv hk hx k1
    go_enter Try.func20, Try.ntmps20
    go_wp2_with (at_builtin; refine Lib.wpList_append_run _ rfl (.tmp 18) (.tmp 19) 23 3 rfl _ (.int .i64 k) rfl (congrArg (Value.int .i64) HX.out) _ _ HR.out ?_)
    go_end0
    have e : growC st n = { st with dat := st.dat ++ List.replicate k 0 } := by unfold growC; congr 3; have := HK.out; omega
    rw [e]
    obtain ⟨r1, r2⟩ := H.out.setD (st' := { st with dat := st.dat ++ List.replicate k 0 }) HG.out rfl (by simpa [bts] using HO.out) HV.out rfl rfl rfl rfl rfl rfl
    exact ⟨_, rfl, r1, r2, HV.out⟩
end
end Go.Proofs.Ytnffhlbkigipmaa
