/- DERIVED. bytes.Clone, Read. -/
import Derived.Test.YtnffhlbkigipmaaK
namespace Go.Proofs.Ytnffhlbkigipmaa
open Go.RowKit Flo
/-- append on bytes, the destination the call's own. -/
theorem app5 {w : World} {ops : Array Oper} {rest : List Oper} {o : Oper} {a : Act} {Q : Exit → Act → World → Prop} (hg : o.guard = none) (s x : Operand)
    (hop : o.op = Op.call { callee := Callee.builtin Builtin.append, args := #[s, x], argTypes := #[23, 23] }) (base : Nat) (v : Value) (n : Nat) (xs : List Value) (hs : a.eval s = v)
    (hown : w.ownsRow base 5 1 v n xs) (ad : Addr) (m c : Nat) (news : List Value) (hx : a.eval x = Value.slice (some ad) m c) (hn : news.length = m)
    (hc : ∀ (j : Nat) (u : Value), news[j]? = some u → w.cell? (ad.add j) = some u) (h1 : ∀ u ∈ news, u.oneCell' = true) (small : n + m ≤ 1000000) (hb : base ≤ w.heap.size)
    (hK : ∀ (v' : Value) (w' : World), w'.ownsRow base 5 1 v' (n + m) (xs ++ news) → w.grownBy w' v.ownBlock → (v' = Value.slice none 0 0 ↔ v = Value.slice none 0 0 ∧ m = 0) → wpList Try.prog ops Q rest (a.put o.dst v') w') :
    wpList Try.prog ops Q (o :: rest) a w := by
  obtain ⟨i0, hi, hz0, hz1, hz2⟩ := info_parts Try.info5
  exact wpList_append_own w hg s x 23 hop base 5 i0 (.int .u8 0) 1 1 Try.underlying23 hi hz0 hz1 hz2 rfl (by decide) v n xs hs hown ad m c news hx (by omega) hc h1 (by unfold maxLen; omega) (by omega) hb hK
/-- Answers bytes in new memory. -/
def NewB (w : World) (l : List Int) (e : Ending) (w' : World) : Prop := ∃ v', e = .returned v' ∧ w'.ownsRow w.heap.size 5 1 v' l.length (bts l) ∧ Kp [] w w'
set_option maxRecDepth 100000 in
set_option maxHeartbeats 400000 in
theorem cloneB_some (g o cap : Nat) (l : List Int) (w : World) (hL : l.length ≤ 100000) (hg : g < w.heap.size) (hc : ∀ j u, (bts l)[j]? = some u → w.cell? ⟨g, o + j, none⟩ = some u) :
    Calls Try.prog 23 #[.slice (some ⟨g,o,none⟩) l.length cap] w (NewB w l) := by
  have hnil := fun (w : World) a n c => Lib.run_eql_slice_nil (P := Try.prog) w 23 5 a n c 0 0 Try.underlying23
  have hc' : ∀ (j : Nat) (u : Value), (bts l)[j]? = some u → (w.alloc (.cells #[] 5)).cell? ((⟨g, o, none⟩ : Addr).add j) = some u := fun j u h => cell_row (by rw [World.cell?_alloc_past _ _ _ hg]; exact hc j u h)
  have HC := hid hc'
  clear hc hc'
  go_enter Try.func23, Try.ntmps23
  go_wp2_with (at_builtin; refine app5 rfl (.tmp 5) (.tmp 6) rfl w.heap.size _ 0 [] rfl (World.ownsRow_made w #[] 0 (Nat.le_refl _) (by decide) rfl) ⟨g, o, none⟩ l.length cap (bts l) rfl (bts_len l) HC.out (bts_one l) (by omega) (by simp) ?_)
  intro v' w' hown hgrow _
  go_wp2
  go_ret
  refine ⟨v', rfl, by simpa using hown, ((Kp.refl _ _).alloc _).grown hgrow (by intro k hk; cases hk; simp)⟩
set_option maxRecDepth 100000 in
set_option maxHeartbeats 400000 in
theorem cloneB_nil (w : World) : Calls Try.prog 23 #[.slice none 0 0] w (NewB w []) := by
  have hnil := fun (w : World) a n c => Lib.run_eql_slice_nil (P := Try.prog) w 23 5 a n c 0 0 Try.underlying23
  go_enter Try.func23, Try.ntmps23
  go_wp2
  go_ret
  exact ⟨_, rfl, World.ownsRow_nil _ _ _ _, Kp.refl _ _⟩
/-- A slice of bytes, wherever it begins, to be read. -/
def RdB (w : World) (v : Value) (l : List Int) : Prop :=
  (v = .slice none 0 0 ∧ l = []) ∨ ∃ g o cap, v = .slice (some ⟨g, o, none⟩) l.length cap ∧ g < w.heap.size ∧ ∀ j u, (bts l)[j]? = some u → w.cell? ⟨g, o + j, none⟩ = some u
theorem RdB.of {w : World} {base : Nat} {v : Value} {l : List Int} (h : Rd w base v l.length (bts l)) : RdB w v l := by
  rcases h with ⟨rfl, h0, _⟩ | ⟨g, cap, h, _, hg, hc⟩
  · exact .inl ⟨rfl, by simpa using h0⟩
  · exact .inr ⟨g, 0, cap, h, hg, fun j u hu => by rw [Nat.zero_add]; exact hc j u hu⟩
theorem cloneB_zero (g o cap : Nat) (w : World) (hg : g < w.heap.size) : Calls Try.prog 23 #[.slice (some ⟨g,o,none⟩) 0 cap] w (NewB w []) :=
  cloneB_some g o cap [] w (by simp) hg (fun j u hu => by simp [bts] at hu)
theorem cloneB {v : Value} {l : List Int} {w : World} (h : RdB w v l) (hL : l.length ≤ 100000) : Calls Try.prog 23 #[v] w (NewB w l) := by
  rcases h with ⟨rfl, rfl⟩ | ⟨g, o, cap, rfl, hg, hc⟩
  · exact cloneB_nil w
  · exact cloneB_some g o cap l w hL hg hc
theorem RdB.kp {S : List Nat} {w w' : World} {v : Value} {l : List Int} (h : RdB w v l) (k : Kp S w w') (hs : ∀ g, v.ownBlock = some g → g ∉ S) : RdB w' v l := by
  rcases h with h | ⟨g, o, cap, rfl, hl, hc⟩
  · exact .inl h
  · exact .inr ⟨g, o, cap, rfl, Nat.lt_of_lt_of_le hl k.size, fun j u hu => k.cell (p := ⟨g, o + j, none⟩) (hs g rfl) (hc j u hu)⟩
section
variable {w : World} {B c : Nat} {st : CS} {vd vk vp : Value} {ps : List Pc}
/-- c.Read(at, size) -/
def readF (st : CS) (a s : Int) : List Int := if a < 0 ∨ s < 0 ∨ st.size ≤ a then [] else (st.dat.drop a.toNat).take (min s (st.size - a)).toNat
set_option maxRecDepth 100000 in
set_option maxHeartbeats 400000 in
theorem read_yes (a s : Int) (h : CRep w B c st vd vk vp ps) (h1 : 0 ≤ a) (h2 : 0 ≤ s) (h3 : a < st.size) (hz : st.size ≤ 9728) (hd : st.size ≤ st.dat.length) :
    Calls Try.prog 11 #[cptr c, .int .i64 a, .int .i64 s] w (NewB w (readF st a s)) := by
  have c3 := h.c3
  obtain ⟨gd, capd, rfl⟩ : ∃ g cap, vd = .slice (some ⟨g, 0, none⟩) st.dat.length cap := by
    rcases h.dat.2 with ⟨_, h0⟩ | ⟨g, cap, _, h, _⟩
    · omega
    · exact ⟨g, cap, h⟩
  have hcap : st.dat.length ≤ capd := by
    rcases h.dat.2 with ⟨h, _⟩ | ⟨g, cap, _, h, _, _, hc, _⟩
    · cases h
    · cases h; exact hc
  have H := hid h
  clear h
  go_enter Try.func11, Try.ntmps11
  go_wp2_with fail
  (with_reducible refine (part_yes _ _ H.out h1 h2 h3 hz).mono ?_)
  rintro e w' ⟨rfl, n, rfl⟩
  have d3 : (w.drewN n).cell? ⟨c, 3, none⟩ = some (.slice (some ⟨gd, 0, none⟩) st.dat.length capd) := c3
  obtain ⟨q, hq⟩ : ∃ q : Nat, min s (st.size - a) = q := ⟨(min s (st.size - a)).toNat, by omega⟩
  obtain ⟨p, rfl⟩ := Int.eq_ofNat_of_zero_le h1
  rw [hq]
  have hpq : p + q ≤ st.size := by omega
  have hlen : (readF st p s).length = q := by
    unfold readF; rw [if_neg (by omega), hq]; simp; omega
  have hcells : ∀ j u, (bts (readF st p s))[j]? = some u → (w.drewN n).cell? ⟨gd, p + j, none⟩ = some u := by
    intro j u hu
    have hj : j < q := by
      have := (List.getElem?_eq_some_iff.1 hu).1
      simpa [bts, hlen] using this
    have h1 := H.out.dat.cellAt (p + j) (by omega)
    show w.cell? _ = _
    rw [h1, ← hu]
    unfold readF; rw [if_neg (by omega), hq]
    simp [bts, List.getElem?_drop, hj]
  obtain ⟨l, hl⟩ : ∃ l, l = readF st p s := ⟨_, rfl⟩
  rw [← hl] at hlen hcells ⊢
  subst hlen
  have hgd : gd < (w.drewN n).heap.size := (H.out.dat.lt gd rfl).2
  have HC := hid hcells
  have HLL := hid hl
  clear hl hq c3 hcells
  go_wp2_with fail
  (with_reducible refine (cloneB_some gd p (capd - p) l _ (by omega) hgd HC.out).mono ?_)
  rintro e w2 ⟨v', rfl, ho, hk⟩
  have HO := hid ho
  have HK := hid hk
  clear ho hk d3
  go_wp2
  go_ret
  rw [← HLL.out]
  exact ⟨v', rfl, HO.out, ((Kp.refl [] w).drewN n).trans HK.out⟩
set_option maxRecDepth 100000 in
set_option maxHeartbeats 400000 in
theorem read_no (a s : Int) (h : CRep w B c st vd vk vp ps) (hn : a < 0 ∨ s < 0 ∨ st.size ≤ a) :
    Calls Try.prog 11 #[cptr c, .int .i64 a, .int .i64 s] w (NewB w (readF st a s)) := by
  have hr : readF st a s = [] := by unfold readF; rw [if_pos hn]
  rw [hr]
  have c3 := h.c3
  rcases h.dat.2 with ⟨rfl, h0⟩ | ⟨g, cap, cur, rfl, hg⟩
  · have H := hid h
    clear h hr
    go_enter Try.func11, Try.ntmps11
    go_wp2_with fail
    (with_reducible refine (part_no _ _ H.out hn).mono ?_)
    rintro e w' ⟨rfl, n, rfl⟩
    have d3 : (w.drewN n).cell? ⟨c, 3, none⟩ = some (.slice none 0 0) := c3
    clear c3
    go_wp2_with fail
    (with_reducible refine (cloneB_nil _).mono ?_)
    rintro e w2 ⟨v', rfl, ho, hk⟩
    have HO := hid ho
    have HK := hid hk
    clear ho hk d3
    go_wp2
    go_ret
    exact ⟨v', rfl, HO.out, ((Kp.refl [] w).drewN n).trans HK.out⟩
  · have H := hid h
    have hgl := (h.dat.lt g rfl).2
    clear h hr hg
    go_enter Try.func11, Try.ntmps11
    go_wp2_with fail
    (with_reducible refine (part_no _ _ H.out hn).mono ?_)
    rintro e w' ⟨rfl, n, rfl⟩
    have d3 : (w.drewN n).cell? ⟨c, 3, none⟩ = some (.slice (some ⟨g, 0, none⟩) st.dat.length cap) := c3
    have hgl2 : g < (w.drewN n).heap.size := hgl
    clear c3
    go_wp2_with fail
    (with_reducible refine (cloneB_zero g 0 cap _ hgl2).mono ?_)
    rintro e w2 ⟨v', rfl, ho, hk⟩
    have HO := hid ho
    have HK := hid hk
    clear ho hk d3
    go_wp2
    go_ret
    exact ⟨v', rfl, HO.out, ((Kp.refl [] w).drewN n).trans HK.out⟩
theorem read_any (a s : Int) (h : CRep w B c st vd vk vp ps) (hz : st.size ≤ 9728) (hd : st.size ≤ st.dat.length) :
    Calls Try.prog 11 #[cptr c, .int .i64 a, .int .i64 s] w (NewB w (readF st a s)) := by
  by_cases hn : a < 0 ∨ s < 0 ∨ st.size ≤ a
  · exact read_no a s h hn
  · exact read_yes a s h (by omega) (by omega) (by omega) hz hd
end
end Go.Proofs.Ytnffhlbkigipmaa
