/- DERIVED. CacheFlushes' walk -/
import Derived.Test.YtnffhlbkigipmaaAA
import Derived.Test.YtnffhlbkigipmaaS
import Derived.Laws.BytesArg
import Derived.Deep.CutBlock
import Derived.Deep.AppendLies
import Derived.Deep.DeepCutAuto
namespace Go.Proofs.Ytnffhlbkigipmaa
open Go.RowKit Flo
/-- Slices that came in, to be read. -/
def Us (w : World) (a : Option Addr) (n : Nat) : Prop := n ≤ maxLen ∧ (0 < n → ∃ g o, a = some ⟨g, o, none⟩ ∧ g < w.heap.size ∧ ∀ i, i < n → ∃ x : Nat, x ≤ 65535 ∧ w.cell? ⟨g, o + i, none⟩ = some (.int .u16 x))
def Ds (w : World) (a : Option Addr) (n : Nat) : Prop := n ≤ maxLen ∧ (0 < n → ∃ g o, a = some ⟨g, o, none⟩ ∧ g < w.heap.size ∧ ∀ i, i < n → ∃ (l : List Int) (b : Option Addr) (cap : Nat), l.length ≤ maxLen ∧ w.cell? ⟨g, o + i, none⟩ = some (.slice b l.length cap) ∧ (0 < l.length → RdB w (.slice b l.length cap) l))
theorem make_zero5 {w : World} {ops : Array Oper} {rest : List Oper} {o : Oper} {a : Act} {Q : Exit → Act → World → Prop} (hg : o.guard = none) (l c : Operand) (hop : o.op = Op.makeSlice 23 l c) (base : Nat)
    (hl : a.eval l = .int .i64 0) (hc : a.eval c = .int .i64 0) (hb : base ≤ w.heap.size)
    (hK : ∀ w', w'.ownsRow base 5 1 (.slice (some ⟨w.heap.size, 0, none⟩) 0 0) 0 [] → w.grownBy w' none → wpList Try.prog ops Q rest (a.put o.dst (.slice (some ⟨w.heap.size, 0, none⟩) 0 0)) w') :
    wpList Try.prog ops Q (o :: rest) a w := by
  obtain ⟨i0, hi, hz0, hz1, hz2⟩ := info_parts Try.info5
  refine wpList_make_full w hg l c 23 hop base 5 i0 (.int .u8 0) 1 Try.underlying23 hi hz0 hz1 .i64 .i64 0 0 0 hl hc rfl rfl (by rw [hz2]; omega) (by unfold maxLen; omega) hb (fun w' h1 h2 => hK w' ?_ h2)
  rw [cells_u8, toList_madeCells_one] at h1
  simpa using h1
theorem read_all {w : World} {B c : Nat} {st : CS} {vd vk vp : Value} {ps : List Pc} {D : List (Nat × List Int)} (h : CRep w B c st vd vk vp ps) (hf : FW st D) :
    Calls Try.prog 11 #[cptr c, .int .i64 0, .int .i64 9728] w (NewB w st.dat) := by
  have h1 := hf.le
  have h2 := hf.size
  have hr := read_any 0 9728 h (by omega) (by omega)
  have e : readF st 0 9728 = st.dat := by
    unfold readF
    by_cases h0 : st.size = 0
    · rw [if_pos (by omega)]
      exact (List.eq_nil_of_length_eq_zero (by omega)).symm
    · rw [if_neg (by omega), show (min 9728 ((st.size : Int) - 0)).toNat = st.dat.length by omega]
      simp
  rw [e] at hr; exact hr
theorem conv_row {w : World} {B : Nat} {v : Value} {n : Nat} {l : List Int} (h : w.ownsRow B 5 1 v n (bts l)) : (convert 23 9 v).run Try.prog w = .ok (.string (strOfNums l)) w := by
  have hn : l.length = n := by have := h.1; rw [bts_len] at this; omega
  rcases h.2 with ⟨rfl, h0⟩ | ⟨g, cap, cur, rfl, _⟩
  · obtain rfl : l = [] := List.eq_nil_of_length_eq_zero (by omega)
    exact run_convert_bytes_nil w 23 5 Try.underlying23 Try.underlying5 0 0 9 Try.underlying9
  · refine run_convert_bytes_arg w 23 5 Try.underlying23 Try.underlying5 g 0 n cap l hn (fun i hi => ?_) 9 Try.underlying9
    rw [Nat.zero_add, h.cellAt i (by omega), bts_at l (by omega)]
/-- One byte more, the destination the call's own; where it lies. -/
theorem app_one {w : World} {ops : Array Oper} {rest : List Oper} {o : Oper} {a : Act} {Q : Exit → Act → World → Prop} (hg : o.guard = none) (s x : Operand)
    (hop : o.op = Op.call { callee := Callee.builtin Builtin.append, args := #[s, x], argTypes := #[23, 23] }) (B : Nat) (v : Value) (n : Nat) (xs : List Value) (hs : a.eval s = v) (hown : w.ownsRow B 5 1 v n xs)
    (g : Nat) (u : Value) (hx : a.eval x = .slice (some ⟨g, 0, none⟩) 1 1) (hgw : w.heap[g]? = some (.cells #[u] 5 (0, 0))) (hu : u.oneCell' = true) (hn : n ≤ 100000) (hb : B ≤ w.heap.size)
    (hK : ∀ (g2 cap2 : Nat) (w' : World), w'.ownsRow B 5 1 (.slice (some ⟨g2, 0, none⟩) (n + 1) cap2) (n + 1) (xs ++ [u]) → w.grownBy w' v.ownBlock → (v.ownBlock = some g2 ∨ g2 = w.heap.size) → g2 < w'.heap.size →
      wpList Try.prog ops Q rest (a.put o.dst (.slice (some ⟨g2, 0, none⟩) (n + 1) cap2)) w') :
    wpList Try.prog ops Q (o :: rest) a w := by
  obtain ⟨i0, hi0, hz0, hz1, hz2⟩ := info_parts Try.info5
  exact wpList_append_lies w hg s x 23 hop B 5 i0 _ 1 1 Try.underlying23 hi0 hz0 hz1 hz2 rfl (by omega) v n xs hs hown ⟨g, 0, none⟩ 1 1 [u] hx rfl (World.news_of_block hgw) (by simpa using hu) (by omega) (by unfold maxLen; omega) (by omega) hb _ rfl hK
theorem bts_snoc (A : List Int) (m : Nat) : bts (A ++ List.replicate m 0) ++ [.int .u8 0] = bts (A ++ List.replicate (m + 1) 0) := by
  simp [bts, List.replicate_succ']
/-- No block of the cache is this one. -/
def Sep (g c : Nat) (vd vk vp : Value) (ps : List Pc) : Prop := g ≠ c ∧ vd.ownBlock ≠ some g ∧ vk.ownBlock ≠ some g ∧ vp.ownBlock ≠ some g ∧ ∀ p ∈ ps, p.v.ownBlock ≠ some g
theorem CRep.lost_dirty {w : World} {B c : Nat} {st : CS} {vd vk vp : Value} {ps : List Pc} {D : List (Nat × List Int)} (h : CRep w B c st vd vk vp ps) (hf : FW st D) : ps.length = D.length := by
  have := h.dy
  rw [hf.dirty] at this
  have := congrArg List.length this
  simpa [dz] using this.symm
theorem flat_pos {D : List (Nat × List Int)} (h : D ≠ []) (ho : ∀ p ∈ D, POk p) : 0 < (D.foldl lay []).length := by
  rcases List.eq_nil_or_concat D with rfl | ⟨L, p, rfl⟩
  · exact absurd rfl h
  · have := ho p (by simp)
    rw [List.concat_eq_append, List.foldl_append]
    show 0 < (lay _ p).length
    rw [lay_len]; unfold POk at this; omega
theorem sep_empty {w : World} {B c g : Nat} {st : CS} {vd vk vp : Value} {ps : List Pc} {D : List (Nat × List Int)} (h : CRep w B c st vd vk vp ps) (hf : FW st D) (h0 : D ≠ [])
    (hft : ∀ k ∈ foot c vd vp, k ≠ g) (ho : w.ownsRow B 5 1 (.slice (some ⟨g, 0, none⟩) 0 0) 0 []) : Sep g c vd vk vp ps := by
  have hnone : ∀ j, w.cell? ⟨g, j, none⟩ = none := by
    rcases ho.2 with ⟨h, _⟩ | ⟨g', cap', cur, h, _, hg, _, _, hcs, _⟩
    · cases h
    · cases h
      simp at hcs
      intro j
      simp [World.cell?, hg, hcs]
  have rdn : ∀ {v : Value} {xs : List Value} {n : Nat}, Rd w B v n xs → 0 < xs.length → v.ownBlock ≠ some g := by
    intro v xs n hr hx e
    rcases hr with ⟨rfl, _⟩ | ⟨g', cap, rfl, _, _, hc⟩
    · simp [Value.ownBlock] at e
    · simp [Value.ownBlock] at e; subst e
      have := hc 0 xs[0] (by simp [hx])
      rw [hnone] at this; cases this
  have hpos : 0 < st.size := by rw [← hf.size, hf.dat]; exact flat_pos h0 hf.ok
  refine ⟨fun e => hft c (mem_foot.2 (.inl rfl)) e.symm, fun e => hft g (mem_foot.2 (.inr (.inl e))) rfl, rdn h.kn (by rw [hf.kn, pre_pos (by omega)]; simp [zcs]), fun e => hft g (mem_foot.2 (.inr (.inr e))) rfl, fun p hp => rdn (h.pl p hp) ?_⟩
  have hd := h.dy
  rw [hf.dirty] at hd
  have : (p.at_, p.data) ∈ dz D := by rw [hd]; exact List.mem_map.2 ⟨p, hp, rfl⟩
  obtain ⟨q, hq, e⟩ := List.mem_map.1 this
  have := hf.ok q hq
  rw [bts_len, ← (Prod.mk.inj e).2]; exact this.2.1
theorem CRep.sep_new {w : World} {B c g : Nat} {st : CS} {vd vk vp : Value} {ps : List Pc} (h : CRep w B c st vd vk vp ps) (hg : w.heap.size ≤ g) : Sep g c vd vk vp ps :=
  ⟨fun e => by have := h.lt; omega, fun e => by have := (h.dat.lt g e).2; omega, fun e => by have := (h.kn.lt g e).2; omega, fun e => by have := (h.row.lt g e).2; omega, fun p hp e => by have := ((h.pl p hp).lt g e).2; omega⟩
theorem CRep.kpSep {S : List Nat} {w w' : World} {B c : Nat} {st : CS} {vd vk vp : Value} {ps : List Pc} (h : CRep w B c st vd vk vp ps) (k : Kp S w w') (hs : ∀ g ∈ S, Sep g c vd vk vp ps) : CRep w' B c st vd vk vp ps :=
  h.kp k (fun e => (hs c e).1 rfl) (fun g hg e => (hs g e).2.1 hg) (fun g hg e => (hs g e).2.2.1 hg) (fun g hg e => (hs g e).2.2.2.1 hg) (fun p hp g hg e => (hs g e).2.2.2.2 p hp hg)
theorem dz_head {D : List (Nat × List Int)} {k : Nat} (hk : k < D.length) {ps : List Pc} (h : dz (D.drop k) = ps.map fun p => (p.at_, p.data)) : ∃ p ps', ps = p :: ps' ∧ p.at_ = (D[k].1 : Nat) ∧ p.data = D[k].2 := by
  rw [List.drop_eq_getElem_cons hk] at h
  match ps, h with
  | p :: ps', h =>
    simp only [dz, List.map_cons, List.cons.injEq, Prod.mk.injEq] at h
    exact ⟨p, ps', rfl, h.1.1.symm, h.1.2.symm⟩
theorem dz_tail (D : List (Nat × List Int)) (k : Nat) : (dz (D.drop k)).tail = dz (D.drop (k + 1)) := by
  simp [dz, List.map_drop]
def lenV : Value → Nat
  | .slice _ n _ => n
  | _ => 0
set_option maxRecDepth 100000 in
set_option maxHeartbeats 4000000 in
theorem flushes_any (aa : Option Addr) (la ca : Nat) (ad : Option Addr) (ld cd : Nat) (w : World) (hu : Us w aa la) (hd : Ds w ad ld) :
    Calls Try.prog 4 #[.slice aa la ca, .slice ad ld cd] w fun e w' => e = .returned (.bool true) ∧ Kp [] w w' := by
  have la9 := hu.1
  have ld9 := hd.1
  unfold maxLen at la9 ld9
  have HU := hid hu
  have HD := hid hd
  clear hu hd
  go_enter Try.func4, Try.ntmps4
  go_wp2_with fail
  (with_reducible refine (new_any w).mono ?_)
  rintro e w1 ⟨c, rfl, hc, h1, k1⟩
  have H1 := hid h1
  have K1 := hid k1
  clear h1 k1
  go_wp2_with fail
  (with_reducible refine (awake_any w1).mono ?_)
  rintro e w2 ⟨rfl, k2⟩
  have H2 := hid (H1.out.kp0 k2)
  have K2 : Hid (Kp [] w w2) := K1.out.trans k2
  clear k2
  go_wp2_with fail
  (with_reducible refine (lease_any 0 0 H2.out (by omega) (by omega) (by simp [cs0]) (by omega) (by omega)).mono ?_)
  rintro e w3 ⟨vd3, vk3, rfl, h3, k3, hv3⟩
  have H3 : Hid (CRep w3 w.heap.size c (S0 0) vd3 vk3 (.slice none 0 0) []) := h3
  have K3 : Hid (Kp [] w w3) := K2.out.step k3 (fun n hn => .inr (foot_new hc (by simp [Value.ownBlock]) (by simp [Value.ownBlock]) n hn))
  have hv3' : ∀ k, vd3.ownBlock = some k → w.heap.size ≤ k := by
    intro k hk
    rcases hv3 with e | e
    · rw [e] at hk; simp [Value.ownBlock] at hk
    · have := e k hk; have := K2.out.size; omega
  have F3 : Hid (∀ k ∈ foot c vd3 (.slice none 0 0), w.heap.size ≤ k ∧ k < w3.heap.size) := fun k hk => ⟨foot_new hc hv3' (by simp [Value.ownBlock]) k hk, by
    rcases mem_foot.1 hk with e | e | e
    · rw [e]; exact H3.out.lt
    · exact (H3.out.dat.lt k e).2
    · simp [Value.ownBlock] at e⟩
  clear h3 k3 hv3 hv3'
  go_wp2_with (at_make; refine make_zero5 rfl _ _ rfl w.heap.size rfl rfl K3.out.size ?_)
  intro w4 ho4 hg4
  have k4 : Kp [] w3 w4 := Kp.of_grown hg4
  have H4 := hid (H3.out.kp0 k4)
  have K4 : Hid (Kp [] w w4) := K3.out.trans k4
  have hgl : w.heap.size ≤ w3.heap.size ∧ w3.heap.size < w4.heap.size := ho4.lt w3.heap.size rfl
  have O4 := hid ho4
  have F4 : Hid (∀ k ∈ foot c vd3 (.slice none 0 0), w.heap.size ≤ k ∧ k ≠ w3.heap.size) := fun k hk => ⟨(F3.out k hk).1, by have := (F3.out k hk).2; omega⟩
  clear ho4 hg4 k4 F3 H3 K3
  go_upto_block 0 with (fail)
  go_cut [7] (fun n wx => ∃ (D : List (Nat × List Int)) (st : CS) (vd vk vp : Value) (ps : List Pc), n = .int .i64 D.length ∧ D.length ≤ 16 ∧ Hid (FW st D) ∧ Hid (CRep wx w.heap.size c st vd vk vp ps) ∧ Hid (Kp [] w wx) ∧ Hid (wx.ownsRow w.heap.size 5 1 (.slice (some ⟨w3.heap.size, 0, none⟩) 0 0) 0 []) ∧ Hid (∀ k ∈ foot c vd vp, w.heap.size ≤ k ∧ k ≠ w3.heap.size))
  case first =>
   go_wp2_with fail
   go_loopw [7, 8] (fun n i wr => ∃ (k : Nat) (D : List (Nat × List Int)) (st : CS) (vd vk vp : Value) (ps : List Pc), k ≤ la ∧ i = .int .i64 k ∧ n = .int .i64 D.length ∧ D.length ≤ 16 ∧ Hid (FW st D) ∧ Hid (CRep wr w.heap.size c st vd vk vp ps) ∧ Hid (Kp [] w wr) ∧ Hid (wr.ownsRow w.heap.size 5 1 (.slice (some ⟨w3.heap.size, 0, none⟩) 0 0) 0 []) ∧ Hid (∀ k ∈ foot c vd vp, w.heap.size ≤ k ∧ k ≠ w3.heap.size)) (fun _ i _ => la - (intOf i).toNat)
   case atStart => exact ⟨0, [], S0 0, vd3, vk3, _, _, by omega, rfl, rfl, by simp, FW.start, H4, K4, O4, F4⟩
   case round =>
     obtain ⟨k, D, st, vd, vk, vp, ps, hk, rfl, rfl, hD, HF, HC, HK, HO, HFT⟩ := hrel
     clear H4 K4 O4 F4
     by_cases hlt : k < la ∧ k < ld ∧ D.length < 16
     · obtain ⟨h1, h2, h3⟩ := hlt
       obtain ⟨gu, ou, rfl, _, hcu⟩ := HU.out.2 (by omega)
       obtain ⟨gd, od, rfl, _, hcd⟩ := HD.out.2 (by omega)
       obtain ⟨x, hx, hcx⟩ := hcu k h1
       obtain ⟨l, b, cap, hl, hcl, hrl⟩ := hcd k h2
       have cx := HK.out.cell (p := ⟨gu, ou + k, none⟩) (by simp) hcx
       have cl := HK.out.cell (p := ⟨gd, od + k, none⟩) (by simp) hcl
       have HRL := hid hrl
       unfold maxLen at hl
       clear hcu hcd hcx hcl hrl
       by_cases hz : l.length = 0 ∨ 300 < l.length
       · by_cases h0 : l.length = 0
         · go_wp2
           all_goals first
             | exact ⟨⟨k + 1, D, st, vd, vk, vp, ps, by omega, by go_num, rfl, hD, HF, HC, HK, HO, HFT⟩, by simp [intOf]; omega⟩
             | (go_roundw
                case rel => exact ⟨k + 1, D, st, vd, vk, vp, ps, by omega, by go_num, rfl, hD, HF, HC, HK, HO, HFT⟩
                case measure => simp [intOf]; omega)
         · go_wp2
           all_goals first
             | exact ⟨⟨k + 1, D, st, vd, vk, vp, ps, by omega, by go_num, rfl, hD, HF, HC, HK, HO, HFT⟩, by simp [intOf]; omega⟩
             | (go_roundw
                case rel => exact ⟨k + 1, D, st, vd, vk, vp, ps, by omega, by go_num, rfl, hD, HF, HC, HK, HO, HFT⟩
                case measure => simp [intOf]; omega)
       · have hl0 : 0 < l.length := by omega
         have h300 : l.length ≤ 300 := by omega
         have hne : ¬ l = [] := by intro e; rw [e] at hl0; exact absurd hl0 (by simp)
         have hnb : ¬ ((l.length : Int) > 300) := by omega
         clear hz
         obtain ⟨gs, os, rfl, hgs, hcs⟩ : ∃ g o, b = some ⟨g, o, none⟩ ∧ g < w.heap.size ∧ ∀ j u, (bts l)[j]? = some u → w.cell? ⟨g, o + j, none⟩ = some u := by
           rcases HRL.out hl0 with ⟨_, h0⟩ | ⟨g, o, cap', h, hg, hc⟩
           · rw [h0] at hl0; exact absurd hl0 (by simp)
           · exact ⟨g, o, (Value.slice.inj h).1, hg, hc⟩
         have hx2 : x % 2000 < 2000 := Nat.mod_lt _ (by omega)
         have hx3 : ((x : Int) % 2000) = ((x % 2000 : Nat) : Int) := by omega
         have HX3 := hid hx3
         clear hx3
         have HST := hid (HF.out.step (x % 2000) l hx2 hl0 (by omega))
         have HCS := hid hcs
         have hsz := HF.out.size
         have hle := HF.out.le
         have hps := HC.out.lost_dirty HF.out
         have hkn : Gds st.kn ∧ st.kn.length ≤ 3 := by rw [HF.out.kn]; exact ⟨gds_of_snd (snd_pre _ (by omega)), by have := pre_len st.size; omega⟩
         have HKN := hid hkn
         clear hcs HRL hkn
         go_wp2_with fail
         (with_reducible refine (write_i _ (x % 2000) l.length l gs os cap HC.out HX3.out rfl hl0 (by omega) HF.out.mode (by omega) (by omega) (by omega) (by omega) HKN.out.1 HKN.out.2 HST.out.2.1 HST.out.2.2 (fun hm => by have := (HFT.out gs hm).1; omega) (by have := HK.out.size; omega) (fun j u hu => HK.out.cell (p := ⟨gs, os + j, none⟩) (by simp) (HCS.out j u hu))).mono ?_)
         rintro e w5 ⟨vd', vk', vp', ps', rfl, h5, k5, f5⟩
         have hgs3 := (HO.out.lt w3.heap.size rfl).2
         go_wp2
         refine ⟨⟨k + 1, D ++ [(x % 2000, l)], _, vd', vk', vp', ps', by omega, by go_num, ?_, ?_, HST.out.1, h5, HK.out.step k5 (fun n hn => .inr (HFT.out n hn).1), HO.out.kp k5 ?_, fun n hn => ?_⟩, ?_⟩
         · simp
         · simp; omega
         · intro g hg hm
           cases hg
           exact (HFT.out _ hm).2 rfl
         · rcases f5 n hn with e | e
           · exact HFT.out n e
           · have := HK.out.size; omega
         · simp [intOf]; omega
     · by_cases e1 : k < la
       · by_cases e2 : k < ld
         · have e3 : 16 ≤ D.length := by omega
           go_wp2_with fail
           go_meet
           exact ⟨D, st, vd, vk, vp, ps, rfl, hD, HF, HC, HK, HO, HFT⟩
         · go_wp2_with fail
           go_meet
           exact ⟨D, st, vd, vk, vp, ps, rfl, hD, HF, HC, HK, HO, HFT⟩
       · go_wp2_with fail
         go_meet
         exact ⟨D, st, vd, vk, vp, ps, rfl, hD, HF, HC, HK, HO, HFT⟩
  case rest =>
   obtain ⟨D, st, vd, vk, vp, ps, rfl, hD, HF, HC, HK, HO, HFT⟩ := hcut
   clear H4 K4 O4 F4
   have hlen := HC.out.lost_dirty HF.out
   go_wp2_with fail
   (with_reducible refine (read_all HC.out HF.out).mono ?_)
   rintro e w5 ⟨vr, rfl, hr, k5⟩
   obtain ⟨ar, cr, rfl⟩ := owns_shape hr
   have hcv := conv_row hr
   have HC5 := hid (HC.out.kp0 k5)
   have HK5 : Hid (Kp [] w w5) := HK.out.trans k5
   have HO5 := hid (HO.out.kp k5 (by simp))
   have HSEP : Hid (D ≠ [] → Sep w3.heap.size c vd vk vp ps) := fun h0 => sep_empty HC5.out HF.out h0 (fun k hk => (HFT.out k hk).2) HO5.out
   clear HC HK HO HFT k5 hr
   go_wp2
   go_loopw [6, 11] (fun v i wr => ∃ (k : Nat) (vp : Value) (ps : List Pc), k ≤ D.length ∧ i = .int .i64 k ∧ Hid (CRep wr w.heap.size c { st with dirty := dz (D.drop k) } vd vk vp ps) ∧ Hid (Kp [] w wr) ∧
     Hid (wr.ownsRow w.heap.size 5 1 v ((D.take k).foldl lay []).length (bts ((D.take k).foldl lay []))) ∧ Hid (D ≠ [] → ∀ g, v.ownBlock = some g → Sep g c vd vk vp ps)) (fun _ i _ => D.length - (intOf i).toNat)
   case atStart => exact ⟨0, vp, ps, by omega, rfl, by rw [show ({ st with dirty := dz (D.drop 0) } : CS) = st by rw [List.drop_zero, ← HF.out.dirty]]; exact HC5, HK5, HO5, fun h0 g hg => by cases hg; exact HSEP.out h0⟩
   case round =>
    obtain ⟨k, vp', ps', hk, rfl, HC, HK, HO, HS⟩ := hrel
    clear HC5 HK5 HO5 HSEP
    by_cases hlt : k < D.length
    · obtain ⟨p, ps2, rfl, hat, hdat⟩ := dz_head hlt HC.out.dy
      have hok := HF.out.ok D[k] (by simp)
      unfold POk at hok
      rw [← hdat] at hok
      have hD0 : D ≠ [] := by intro e; rw [e] at hlt; simp at hlt
      have HS' := hid (HS.out hD0)
      have HPS := HC.out.dy
      have hpsl : ps2.length ≤ 50 := by
        have := congrArg List.length HPS
        simp [dz] at this; omega
      clear HS HPS
      go_wp2_with fail
      (with_reducible refine (first_yes p HC.out (by omega)).mono ?_)
      rintro e w6 ⟨v', rfl, hr6, k6⟩
      have HC6 := hid (HC.out.kp0 k6)
      have HK6 : Hid (Kp [] w w6) := HK.out.trans k6
      have HO6 := hid (HO.out.kp k6 (by simp))
      obtain ⟨a, ha⟩ : ∃ a : Nat, a = D[k].1 := ⟨_, rfl⟩
      obtain ⟨l, hl⟩ : ∃ l : List Int, l = D[k].2 := ⟨_, rfl⟩
      rw [← hl] at hdat
      rw [hdat] at hr6 hok
      obtain ⟨g6, c6, rfl, hg6, hg6l, hc6⟩ : ∃ g cap, v' = .slice (some ⟨g, 0, none⟩) l.length cap ∧ wr.heap.size ≤ g ∧ g < w6.heap.size ∧ ∀ j u, (bts l)[j]? = some u → w6.cell? ⟨g, j, none⟩ = some u := by
        rcases hr6 with ⟨_, h0, _⟩ | h
        · omega
        · exact h
      have hne6 : ∀ g, u6.ownBlock = some g → g < wr.heap.size := fun g hg => (HO.out.lt g hg).2
      have NE6 := hid hne6
      have CC6 := hid hc6
      rw [← ha] at hat hok
      rw [hat]
      obtain ⟨A, hA⟩ : ∃ A : List Int, A = (D.take k).foldl lay [] := ⟨_, rfl⟩
      rw [← hA] at HO6
      have hAl : A.length ≤ 2300 := by rw [hA]; exact flat_len _ (fun q hq => HF.out.ok q (List.mem_of_mem_take hq)) [] (by simp)
      have HA := hid (And.intro ha (And.intro hl hA))
      have HP := hid (And.intro hat hdat)
      obtain ⟨a6, cap6, rfl⟩ := owns_shape HO6.out
      clear HC HK HO k6 hr6 hne6 hc6 ha hA hl hat hdat
      go_wp2
      have kal := (Kp.refl [] w6).alloc (.cells #[Value.int .i64 a, Value.slice (some ⟨g6, 0, none⟩) l.length c6] 39)
      have HC8 := hid (HC6.out.kp0 kal)
      have HK8 : Hid (Kp [] w _) := HK6.out.trans kal
      have HO8 := hid (HO6.out.kp kal (by simp))
      have CC8 : Hid (∀ j u, (bts l)[j]? = some u → (w6.alloc (.cells #[Value.int .i64 a, Value.slice (some ⟨g6, 0, none⟩) l.length c6] 39)).cell? ⟨g6, j, none⟩ = some u) := fun j u hu => kal.cell (p := ⟨g6, j, none⟩) (by simp) (CC6.out j u hu)
      have P0 : Hid ((w6.alloc (.cells #[Value.int .i64 a, Value.slice (some ⟨g6, 0, none⟩) l.length c6] 39)).cell? ⟨w6.heap.size, 0, none⟩ = some (.int .i64 a)) := by show _ = _; rw [World.cell?_alloc_at _ _ _ _ rfl]; rfl
      have P1 : Hid ((w6.alloc (.cells #[Value.int .i64 a, Value.slice (some ⟨g6, 0, none⟩) l.length c6] 39)).cell? ⟨w6.heap.size, 1, none⟩ = some (.slice (some ⟨g6, 0, none⟩) l.length c6)) := by show _ = _; rw [World.cell?_alloc_at _ _ _ _ rfl]; rfl
      have hsz8 : (w6.alloc (.cells #[Value.int .i64 a, Value.slice (some ⟨g6, 0, none⟩) l.length c6] 39)).heap.size = w6.heap.size + 1 := by simp
      have hsz6 := HK6.out.size
      have hNE : Hid (∀ g, (Value.slice a6 A.length cap6).ownBlock = some g → g ≠ w6.heap.size ∧ g ≠ g6 ∧ w.heap.size ≤ g) := fun g hg => ⟨by have := (HO6.out.lt g hg).2; omega, by have := NE6.out g hg; omega, (HO6.out.lt g hg).1⟩
      clear HC6 HK6 HO6 CC6 NE6 kal
      obtain ⟨w8, hw8⟩ : ∃ W, W = w6.alloc (.cells #[Value.int .i64 a, Value.slice (some ⟨g6, 0, none⟩) l.length c6] 39) := ⟨_, rfl⟩
      rw [← hw8] at HC8 HK8 HO8 CC8 P0 P1 hsz8 ⊢
      clear hw8
      go_loopw [6] (fun v wr => ∃ (m : Nat), A.length + m ≤ max A.length (a + l.length) ∧ Hid (wr.ownsRow w.heap.size 5 1 v (A.length + m) (bts (A ++ List.replicate m 0))) ∧ Hid (Kp (Value.slice a6 A.length cap6).ownBlock.toList w8 wr) ∧ Hid (∀ g, v.ownBlock = some g → (Value.slice a6 A.length cap6).ownBlock = some g ∨ w8.heap.size ≤ g)) (fun v _ => (a + l.length) - lenV v)
      case atStart => exact ⟨0, by omega, by simpa using HO8, Kp.refl _ _, fun g hg => .inl hg⟩
      case round =>
        obtain ⟨m, hm, HO, HKi, HV⟩ := hrel
        obtain ⟨a7, cap7, rfl⟩ := owns_shape HO.out
        have hnil : ∀ {g : Nat}, g = w6.heap.size ∨ g = g6 → g ∉ (Value.slice a6 A.length cap6).ownBlock.toList := by
          intro g hg hm
          have := hNE.out g (by simpa using hm)
          omega
        have q0 := HKi.out.cell (p := ⟨w6.heap.size, 0, none⟩) (hnil (.inl rfl)) P0.out
        have q1 := HKi.out.cell (p := ⟨w6.heap.size, 1, none⟩) (hnil (.inl rfl)) P1.out
        by_cases hmore : A.length + m < a + l.length
        · have hog := hid (HO.out.kp ((Kp.refl [] wr).alloc (.cells #[Value.int .u8 0] 5)) (by simp))
          have hbw := HK8.out.size
          have hkw := HKi.out.size
          go_wp2_with (at_builtin; refine app_one rfl (.tmp 96) (.tmp 97) rfl w.heap.size _ (A.length + m) _ rfl hog.out wr.heap.size (.int .u8 0) rfl (heap_alloc_new wr _) rfl (by omega) (by simp; omega) ?_)
          intro g2 cap2 w9 ho9 hg9 hat9 _
          rw [bts_snoc] at ho9
          have k9 : Kp (Value.slice a6 A.length cap6).ownBlock.toList w8 w9 := (HKi.out.alloc _).grown hg9 (fun g hg => by
            rcases HV.out g hg with e | e
            · exact .inl (by simp [e])
            · exact .inr e)
          have v9 : ∀ g, (Value.slice (some ⟨g2, 0, none⟩) (A.length + m + 1) cap2).ownBlock = some g → (Value.slice a6 A.length cap6).ownBlock = some g ∨ w8.heap.size ≤ g := by
            intro g hg
            have hg2 : g2 = g := by simpa [Value.ownBlock] using hg
            subst hg2
            rcases hat9 with e | e
            · exact HV.out _ e
            · right; first | omega | (simp at e; omega)
          have HO9 := hid ho9
          have K9 := hid k9
          have V9 := hid v9
          clear ho9 k9 v9 hg9 hog
          go_wp2
          exact ⟨⟨m + 1, by omega, HO9, K9, V9⟩, by simp [lenV]; omega⟩
        · have HM2 : Hid (m = a + l.length - A.length) := by show _ = _; omega
          obtain ⟨g7, rfl⟩ : ∃ g, a7 = some ⟨g, 0, none⟩ := by
            rcases HO.out.2 with ⟨_, h0⟩ | ⟨g, cap, _, h, _⟩
            · omega
            · exact ⟨g, (Value.slice.inj h).1⟩
          have hcap7 : A.length + m ≤ cap7 := by
            rcases HO.out.2 with ⟨h, _⟩ | ⟨g, cap, _, h, _, _, hc, _⟩
            · cases h
            · cases h; exact hc
          have hane : ¬ cap7 = a := by omega
          have hsrc : ∀ j u, (bts l)[j]? = some u → wr.drew.cell? ((⟨g6, 0, none⟩ : Addr).add j) = some u := by
            intro j u hu
            rw [Addr.add_lit, Nat.zero_add]
            exact HKi.out.cell (p := ⟨g6, j, none⟩) (hnil (.inr rfl)) (CC8.out j u hu)
          obtain ⟨w10, hcpy, ho10, hg10⟩ := copy_own (w := wr.drew) (p := a) (d := A.length + m - a) (c1 := cap7 - a) (c2 := c6) (news := bts l) HO.out.drew (by rw [bts_len]; omega) (bts_one l) (by rw [bts_len]; omega) hsrc
          rw [bts_len] at hcpy
          rw [← bts_over] at ho10
          have S7 := HV.out g7 rfl
          have hs7 : Sep g7 c vd vk vp' (p :: ps2) := by
            rcases S7 with e | e
            · exact HS'.out g7 e
            · exact HC8.out.sep_new e
          have k10 : Kp (g7 :: (Value.slice a6 A.length cap6).ownBlock.toList) w8 w10 := ((HKi.out.mono (fun n hn => .inl (List.mem_cons_of_mem _ hn))).drew).grown hg10 (fun g hg => by cases hg; exact .inl (by simp))
          have HC10 : Hid (CRep w10 w.heap.size c _ vd vk vp' (p :: ps2)) := HC8.out.kpSep k10 (fun g hg => by
            rcases List.mem_cons.1 hg with e | e
            · rw [e]; exact hs7
            · exact HS'.out g (by simpa using e))
          have K10 := hid k10
          have O10 := hid ho10
          have SP7 := hid hs7
          have CP := hid hcpy
          clear k10 ho10 hs7 hg10 hsrc S7
          go_wp2_with fail
          go_region
          clear hcpy
          go_wp2_with fail
          (with_reducible refine (flushed_any p HC10.out hpsl).mono ?_)
          rintro e w11 ⟨vp'', rfl, h11, k11, f11⟩
          have HFIN : Hid (∃ (k_1 : Nat) (vp : Value) (ps : List Pc), k_1 ≤ D.length ∧ Value.int .i64 ((k : Int) + 1) = .int .i64 k_1 ∧ Hid (CRep w11 w.heap.size c { st with dirty := dz (D.drop k_1) } vd vk vp ps) ∧ Hid (Kp [] w w11) ∧
              Hid (w11.ownsRow w.heap.size 5 1 (.slice (some ⟨g7, 0, none⟩) (A.length + m) cap7) ((D.take k_1).foldl lay []).length (bts ((D.take k_1).foldl lay []))) ∧ Hid (D ≠ [] → ∀ g, (Value.slice (some ⟨g7, 0, none⟩) (A.length + m) cap7).ownBlock = some g → Sep g c vd vk vp ps)) := by
            obtain ⟨ha, hl, hA⟩ := HA.out
            have hA' : (D.take (k + 1)).foldl lay [] = over (A ++ List.replicate m 0) a l := by
              rw [flat_take D k hlt, ← hA]; unfold lay; rw [← ha, ← hl, ← HM2.out]
            have hlen' : ((D.take (k + 1)).foldl lay []).length = A.length + m := by
              rw [hA', over_len _ _ _ (by simp; omega)]; simp
            have k11' : Kp [] w w11 := (HK8.out.step K10.out (fun n hn => .inr (by
              rcases List.mem_cons.1 hn with e | e
              · rw [e]; exact (O10.out.lt g7 rfl).1
              · exact (hNE.out n (by simpa using e)).2.2))).step k11 (fun n hn => .inr (by simp at hn; rw [hn]; exact HC8.out.hB))
            refine ⟨k + 1, vp'', ps2, by omega, by go_num, ?_, k11', ?_, ?_⟩
            · rw [← dz_tail]; exact h11
            · rw [hlen', hA']
              exact O10.out.kp k11 (fun g hg hm => by
                have hg' : g7 = g := by simpa [Value.ownBlock] using hg
                have hm' : g = c := by simpa using hm
                exact SP7.out.1 (hg'.trans hm'))
            · intro _ g hg
              have hg' : g7 = g := by simpa [Value.ownBlock] using hg
              subst hg'
              have s7 := SP7.out
              exact ⟨s7.1, s7.2.1, s7.2.2.1, fun e => by have := f11 _ e; have := (O10.out.lt g7 rfl).2; omega, fun q hq => s7.2.2.2.2 q (by simp [hq])⟩
          clear h11 k11 f11
          go_wp2
          exact ⟨HFIN.out, by simp [intOf]; omega⟩
    · have hkD : k = D.length := by omega
      have hps0 : ps' = [] := by
        have := congrArg List.length HC.out.dy
        simp [dz] at this
        exact List.eq_nil_of_length_eq_zero (by omega)
      subst hps0
      have hAe : (D.take k).foldl lay [] = st.dat := by rw [hkD, List.take_length, ← HF.out.dat]
      rw [hAe] at HO
      have HSZ := hid HF.out.size
      clear HS hAe
      go_wp2_with fail
      (with_reducible refine (first_no HC.out).mono ?_)
      rintro e w6 ⟨rfl, k6⟩
      have HC6 := hid (HC.out.kp0 k6)
      have HK6 : Hid (Kp [] w w6) := HK.out.trans k6
      have HO6 := hid (HO.out.kp k6 (by simp))
      obtain ⟨a6, cap6, rfl⟩ := owns_shape HO6.out
      clear HC HK HO k6
      go_wp2_with fail
      have kal := (Kp.refl [] w6).alloc (.cells #[Value.int .i64 0, Value.slice none 0 0] 39)
      have HC6 := hid (HC6.out.kp0 kal)
      have HK6 := hid (HK6.out.trans kal)
      have HO6 := hid (HO6.out.kp kal (by simp))
      (with_reducible refine (dirty_any HC6.out).mono ?_)
      rintro e w7 ⟨rfl, rfl⟩
      have hcv6 := conv_row HO6.out
      have hss : (strOfNums st.dat).size = st.size := (strOfNums_size st.dat).trans HSZ.out
      go_wp2_with fail
      (with_reducible refine (size_any HC6.out).mono ?_)
      rintro e w7 ⟨rfl, rfl⟩
      go_wp2
      go_ret
      exact ⟨by simp, HK6.out⟩
end Go.Proofs.Ytnffhlbkigipmaa
