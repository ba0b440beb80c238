/- DERIVED. CacheFills, where what is written is short -/
import Derived.Test.YtnffhlbkigipmaaX
namespace Go.Proofs.Ytnffhlbkigipmaa
open Go.RowKit Flo
theorem make_full5 {w : World} {ops : Array Oper} {rest : List Oper} {o : Oper} {a : Act} {Q : Exit → Act → World → Prop} (hg : o.guard = none) (l c : Operand) (hop : o.op = Op.makeSlice 23 l c) (base : Nat) (C : Int) (n : Nat)
    (hl : a.eval l = .int .i64 C) (hc : a.eval c = .int .i64 C) (hC : C = n) (small : n ≤ 1000000) (hb : base ≤ w.heap.size)
    (hK : ∀ w', w'.ownsRow base 5 1 (.slice (some ⟨w.heap.size, 0, none⟩) n n) n (bts (List.replicate n 0)) → w.grownBy w' none → wpList Try.prog ops Q rest (a.put o.dst (.slice (some ⟨w.heap.size, 0, none⟩) n n)) w') :
    wpList Try.prog ops Q (o :: rest) a w := by
  obtain ⟨i0, hi, hz0, hz1, hz2⟩ := info_parts Try.info5
  refine wpList_make_full w hg l c 23 hop base 5 i0 (.int .u8 0) 1 Try.underlying23 hi hz0 hz1 .i64 .i64 C C n hl hc hC hC (by rw [hz2]; omega) (by unfold maxLen; omega) hb (fun w' h1 h2 => hK w' ?_ h2)
  rw [cells_u8, toList_madeCells_one, Nat.mul_one] at h1
  rw [bts_zero]; exact h1
/-- The text that is filled in. -/
def Tf (i : Nat) : Int := ((i % 251 : Nat) : Int)
/-- A cache whose bytes are filled in, so far. -/
def StartP (w : World) (B c : Nat) (vd vp : Value) (N F : Nat) (l : List Int) (e : Ending) (w' : World) : Prop :=
  ∃ st Z r vd' vk' vp' ps', e = .returned (.int .i64 0) ∧ CRep w' B c st vd' vk' vp' ps' ∧ FI N Z (Wf N F l Tf) Tf st r ∧ r ≤ N ∧ N ≤ Z ∧ Z ≤ 2300 ∧ Kp (foot c vd vp) w w' ∧ ∀ k ∈ foot c vd' vp', k ∈ foot c vd vp ∨ w.heap.size ≤ k
theorem write_start {w : World} {B c : Nat} {vd vk vp : Value} (N F : Nat) (l : List Int) (ab : Option Addr) (capb : Nat) (h : CRep w B c (S0 N) vd vk vp []) (hN : N < 2000) (hF : F < 2000) (hl : l.length ≤ 300)
    (hb : 0 < l.length → RdB w (.slice ab l.length capb) l) (hf : 0 < l.length → ∀ g, (Value.slice ab l.length capb).ownBlock = some g → g ∉ foot c vd vp) :
    Calls Try.prog 8 #[cptr c, .int .i64 F, .slice ab l.length capb] w (StartP w B c vd vp N F l) := by
  by_cases h0 : l.length = 0
  · obtain rfl : l = [] := by simpa using h0
    refine (write_none F _ h (by omega) rfl ⟨_, _, rfl⟩).mono ?_
    rintro e w' ⟨rfl, rfl⟩
    exact ⟨S0 N, N, N, vd, vk, vp, [], rfl, h, FI.start0 N F Tf, Nat.le_refl _, Nat.le_refl _, by omega, Kp.refl _ _, fun k hk => .inl hk⟩
  · have hpos : 0 < l.length := by omega
    rcases hb hpos with ⟨_, h1⟩ | ⟨g, o, cap, h1, hg, hc⟩
    · exact absurd (by simp [h1]) h0
    · obtain ⟨rfl, _, rfl⟩ := Value.slice.inj h1
      obtain ⟨r, hr, hfi⟩ := FI.start N F l Tf (by omega)
      have hgp := gap_ok N F (F + l.length) hF
      refine (write_some F l g o capb h (by omega) (by omega) rfl (by simp) (by rw [S0_size]; omega) (by rw [S0_size, S0_dat]; simp) (by rw [S0_dat]; simp; omega) (by rw [S0_kn]; exact gds_of_snd snd_nil) (by rw [S0_kn]; simp) hgp.1 hgp.2 (hf hpos g rfl) hg hc).mono ?_
      rintro e w' ⟨vd', vk', vp', ps', rfl, h', k', f'⟩
      exact ⟨_, _, r, vd', vk', vp', ps', rfl, h', hfi, hr, by omega, by omega, k', f'⟩
/-- What the filler is told. -/
def MissZ (w : World) (N Z : Nat) (W T : Nat → Int) (st : CS) (r : Nat) (e : Ending) (w' : World) : Prop :=
  (Full Z W st ∧ Ret3 w 0 0 false e w') ∨ ∃ t m : Nat, 0 < m ∧ t + m ≤ N ∧ (∀ i, t ≤ i → i < t + m → W i = T i) ∧
    (∀ l : List Int, 0 < l.length → l.length ≤ m → (∀ i, i < l.length → l.getD i 0 = W (t + i)) → lessF [(t, t + l.length)] st.kn = [(t, t + l.length)] ∧ ∃ r', r' < r ∧ FI N Z W T (fillC st t l) r') ∧ Ret3 w t m true e w'
theorem miss_z {w : World} {B c : Nat} {st : CS} {vd vk vp : Value} {ps : List Pc} {N Z r : Nat} {W T : Nat → Int} (h : CRep w B c st vd vk vp ps) (hf : FI N Z W T st r) (hN : N ≤ Z) (hZ : Z ≤ 2300) :
    Calls Try.prog 9 #[cptr c, .int .i64 0, .int .i64 9728] w (MissZ w N Z W T st r) := by
  by_cases h0 : Z = 0
  · refine (missing_no 0 9728 h (.inr (.inr (by rw [hf.sz]; omega)))).mono ?_
    intro e w' hr
    refine .inl ⟨⟨?_, fun i hi => by omega⟩, hr⟩
    rcases hf.ph with ⟨t, A, E, hk, h1, h2, h3, h4, _⟩ | ⟨t, hk, h1, _⟩
    · omega
    · rw [hk, show t = Z by omega]
  · obtain ⟨hg, hx⟩ := hf.next (by omega) hN (by omega) _ rfl
    have hs := hf.snd (by omega)
    have hsz := hf.sz
    refine (missing_i 0 0 Z 9728 h rfl (by omega) (by omega) (by omega) (by omega) (by omega) hs.1 hs.2 _ rfl (by rw [Nat.zero_add]; exact hg)).mono ?_
    intro e w' hr
    rw [Nat.zero_add] at hr
    rcases hx with ⟨hL, hfull⟩ | ⟨t, U, hL, ht, hU, htU, hUN, hT, hl⟩
    · rw [MissP, if_pos (by rw [hL]; rfl)] at hr
      exact .inl ⟨hfull, hr⟩
    · rw [MissP, if_neg hL, ht, hU] at hr
      exact .inr ⟨t, U - t, by omega, by omega, fun i a b => hT i a (by omega), fun l a b => hl l a (by omega), hr⟩
theorem miss_full {w : World} {B c : Nat} {st : CS} {vd vk vp : Value} {ps : List Pc} {Z : Nat} {W : Nat → Int} (h : CRep w B c st vd vk vp ps) (hf : Full Z W st) (hsz : st.size = Z) (hZ : Z ≤ 2300) :
    Calls Try.prog 9 #[cptr c, .int .i64 0, .int .i64 9728] w (Ret3 w 0 0 false) := by
  by_cases h0 : Z = 0
  · exact missing_no 0 9728 h (.inr (.inr (by omega)))
  · have hL : lessF [(0, 0 + Z)] st.kn = [] := by rw [hf.1, Nat.zero_add, less_pre Z Z (by omega), if_neg (by omega)]
    have hs : Snd st.kn := by rw [hf.1]; exact snd_pre Z (by omega)
    have hl : st.kn.length ≤ 3 := by rw [hf.1]; have := pre_len Z; omega
    refine (missing_i 0 0 Z 9728 h rfl (by omega) (by omega) (by omega) (by omega) (by omega) hs hl _ rfl (by rw [hL]; intro i hi; simp at hi)).mono ?_
    intro e w' hr
    rw [MissP, if_pos (by rw [hL]; rfl)] at hr
    exact hr
/-- All that is there is read. -/
def ReadZ (w : World) (Z : Nat) (W : Nat → Int) (e : Ending) (w' : World) : Prop :=
  ∃ v' G, e = .returned v' ∧ G.length = Z ∧ (∀ i, i < Z → G.getD i 0 = W i) ∧ w'.ownsRow w.heap.size 5 1 v' Z (bts G) ∧ Kp [] w w'
theorem read_full {w : World} {B c : Nat} {st : CS} {vd vk vp : Value} {ps : List Pc} {Z : Nat} {W : Nat → Int} (h : CRep w B c st vd vk vp ps) (hf : Full Z W st) (hsz : st.size = Z) (hZ : Z ≤ 2300) (hd : Z ≤ st.dat.length) :
    Calls Try.prog 11 #[cptr c, .int .i64 0, .int .i64 9728] w (ReadZ w Z W) := by
  refine (read_any 0 9728 h (by omega) (by omega)).mono ?_
  rintro e w' ⟨v', rfl, ho, hk⟩
  have hG : (readF st 0 9728).length = Z ∧ ∀ i, i < Z → (readF st 0 9728).getD i 0 = W i := by
    unfold readF
    by_cases h0 : Z = 0
    · rw [if_pos (by omega)]; exact ⟨h0.symm, fun i hi => by omega⟩
    · rw [if_neg (by omega), show (min 9728 ((st.size : Int) - 0)).toNat = Z by omega]
      refine ⟨by simp; omega, fun i hi => ?_⟩
      rw [← hf.2 i hi]; simp [List.getD, hi]
  refine ⟨v', _, rfl, hG.1, hG.2, ?_, hk⟩
  rw [hG.1] at ho; exact ho
/-- The piece of the text from t on. -/
def Tl (t m : Nat) : List Int := (List.range m).map fun i => Tf (t + i)
theorem Tl_len (t m : Nat) : (Tl t m).length = m := by simp [Tl]
theorem Tl_at (t m i : Nat) (h : i < m) : (Tl t m).getD i 0 = Tf (t + i) := by simp [Tl, List.getD, h]
theorem cells_Tl {w : World} {gt t m : Nat} (h : ∀ j, j < 2400 → w.cell? ⟨gt, j, none⟩ = some (.int .u8 (Tf j))) (hm : t + m ≤ 2400) : ∀ j u, (bts (Tl t m))[j]? = some u → w.cell? ⟨gt, t + j, none⟩ = some u := by
  intro j u hu
  have hj : j < (Tl t m).length := by rw [← bts_len]; exact (List.getElem?_eq_some_iff.1 hu).1
  rw [bts_at _ hj] at hu
  cases hu
  rw [Tl_len] at hj
  rw [h _ (by omega), Tl_at _ _ _ hj]
set_option maxRecDepth 100000 in
set_option maxHeartbeats 4000000 in
theorem fills_small (n f : Nat) (l : List Int) (ab : Option Addr) (capb : Nat) (s : Int) (w : World) (hn : n ≤ 65535) (hf : f ≤ 65535) (hs0 : 0 ≤ s) (hs1 : s ≤ 255) (hb : 0 < l.length → RdB w (.slice ab l.length capb) l) (hl : l.length ≤ 300) :
    Calls Try.prog 3 #[.int .u16 n, .int .u16 f, .slice ab l.length capb, .int .u8 s] w fun e w' => e = .returned (.bool true) ∧ Kp [] w w' := by
  have HB := hid hb
  clear hb
  go_enter Try.func3, Try.ntmps3
  go_wp2_with fail
  (with_reducible refine (new_any w).mono ?_)
  rintro e w1 ⟨c, rfl, hc, h1, k1⟩
  have H1 := hid h1
  have K1 := hid k1
  clear h1 k1
  go_wp2_with fail
  (with_reducible refine (awake_any w1).mono ?_)
  rintro e w2 ⟨rfl, k2⟩
  have H2 := hid (H1.out.kp0 k2)
  have K2 : Hid (Kp [] w w2) := K1.out.trans k2
  clear k2
  go_wp2_with fail
  have e1 : ((n : Int) % 2000) = ((n % 2000 : Nat) : Int) := by omega
  have e2 : ((f : Int) % 2000) = ((f % 2000 : Nat) : Int) := by omega
  rw [e1, e2]
  have hN : n % 2000 < 2000 := Nat.mod_lt _ (by omega)
  have hF : f % 2000 < 2000 := Nat.mod_lt _ (by omega)
  clear e1 e2
  generalize n % 2000 = N at *
  generalize f % 2000 = F at *
  (with_reducible refine (lease_any 0 N H2.out (by omega) (by omega) (by simp [cs0]) (by omega) (by omega)).mono ?_)
  rintro e w3 ⟨vd3, vk3, rfl, h3, k3, hv3⟩
  rw [Int.toNat_natCast] at h3
  have H3 : Hid (CRep w3 w.heap.size c (S0 N) vd3 vk3 (.slice none 0 0) []) := h3
  have K3 : Hid (Kp [] w w3) := K2.out.step k3 (fun n hn => .inr (foot_new hc (by simp [Value.ownBlock]) (by simp [Value.ownBlock]) n hn))
  have hv3' : ∀ k, vd3.ownBlock = some k → w.heap.size ≤ k := by
    intro k hk
    rcases hv3 with e | e
    · rw [e] at hk; simp [Value.ownBlock] at hk
    · have := e k hk; have := K2.out.size; omega
  have F3 : Hid (∀ k ∈ foot c vd3 (.slice none 0 0), w.heap.size ≤ k) := foot_new hc hv3' (by simp [Value.ownBlock])
  have HB3 := hid (fun h => (HB.out h).kp K3.out (by simp))
  have hfb : 0 < l.length → ∀ g, (Value.slice ab l.length capb).ownBlock = some g → g ∉ foot c vd3 (.slice none 0 0) := by
    intro hpos g hg hm
    have h1 := F3.out g hm
    rcases HB.out hpos with ⟨h, _⟩ | ⟨g', o, cap, h, hg', _⟩
    · rw [h] at hg; simp [Value.ownBlock] at hg
    · rw [h] at hg; simp [Value.ownBlock] at hg; omega
  have HFB := hid hfb
  clear h3 k3 hv3 hv3' hfb
  go_wp2_with fail
  (with_reducible refine (write_start N F l ab capb H3.out hN hF hl HB3.out HFB.out).mono ?_)
  rintro e w4 ⟨st4, Z, r, vd4, vk4, vp4, ps4, rfl, h4, hfi4, hr4, hNZ, hZ, k4, hf4⟩
  have H4 := hid h4
  have FI4 := hid hfi4
  have K4 : Hid (Kp [] w w4) := K3.out.step k4 (fun n hn => .inr (F3.out n hn))
  have F4 : Hid (∀ k ∈ foot c vd4 vp4, w.heap.size ≤ k) := by
    intro k hk
    rcases hf4 k hk with e | e
    · exact F3.out k e
    · have := K3.out.size; omega
  clear h4 hfi4 k4 hf4
  go_wp2_with (at_make; refine make_full5 rfl _ _ rfl w4.heap.size 2400 2400 rfl rfl rfl (by omega) (Nat.le_refl _) ?_)
  intro w5 ho5 hg5
  have k5 : Kp [] w4 w5 := Kp.of_grown hg5
  have H5 := hid (H4.out.kp0 k5)
  have K5 : Hid (Kp [] w w5) := K4.out.trans k5
  have hgt : ∀ k ∈ foot c vd4 vp4, k < w4.heap.size := by
    intro k hk
    rcases mem_foot.1 hk with e | e | e
    · rw [e]; exact H4.out.lt
    · exact (H4.out.dat.lt k e).2
    · exact (H4.out.row.lt k e).2
  obtain ⟨gt, hgte⟩ : ∃ gt, gt = w4.heap.size := ⟨_, rfl⟩
  rw [← hgte] at ho5 hgt ⊢
  have hwgt : w.heap.size ≤ gt := by have := K4.out.size; omega
  have HGT := hid hgt
  have O5 := hid ho5
  have C4 := hid (And.intro hgte H4.out)
  clear ho5 hg5 k5 hgt hgte H4
  go_wp2
  go_loopw [13] (fun i wr => ∃ (k : Nat) (T : List Int), k ≤ 2400 ∧ i = .int .i64 k ∧ T.length = 2400 ∧ Hid (∀ j, j < k → T.getD j 0 = Tf j) ∧ Hid (wr.ownsRow gt 5 1 (.slice (some ⟨gt, 0, none⟩) 2400 2400) 2400 (bts T)) ∧ Hid (Kp [gt] w5 wr)) (fun i _ => 2400 - (intOf i).toNat)
  case atStart => exact ⟨0, List.replicate 2400 0, by omega, rfl, by simp, fun j h => by omega, O5, Kp.refl _ _⟩
  case round =>
    obtain ⟨k, T, hk, rfl, hT, HT, HO, HK⟩ := hrel
    clear O5
    by_cases hlt : k < 2400
    · have c1 := (HO.out.cellAt k (by omega)).trans (bts_at T (by omega))
      have f1 := HO.out.frozenAt k
      go_wp2
      go_roundw
      case rel =>
        refine ⟨k + 1, T.set k (Tf k), by omega, by go_num, by simpa using hT, ?_, ?_, ?_⟩
        · intro j hj
          by_cases e : j = k
          · subst e; simp [List.getD, hT, hlt]
          · have := HT.out j (by omega)
            simpa [List.getD, show ¬ k = j by omega] using this
        · have q := (HO.out.stored k (.int .u8 (Tf k))).1
          rw [show bts (T.set k (Tf k)) = (bts T).set k (.int .u8 (Tf k)) by simp [bts, List.map_set]]
          exact q
        · exact HK.out.setCell (p := ⟨gt, k, none⟩) (.inl (by simp)) _
      case measure => simp [intOf]; omega
    · have hk : k = 2400 := by omega
      subst hk
      clear hlt
      go_wp2
      have TX : Hid (∀ j, j < 2400 → wr.cell? ⟨gt, j, none⟩ = some (.int .u8 (Tf j))) := by
        intro j hj
        rw [HO.out.cellAt j hj, bts_at T (by omega), HT.out j hj]
      have H6 : Hid (CRep wr w.heap.size c st4 vd4 vk4 vp4 ps4) := by
        obtain ⟨e, h⟩ := C4.out
        have l0 := h.lt
        have l1 := fun g hg => (h.dat.lt g hg).2
        have l2 := fun g hg => (h.kn.lt g hg).2
        have l3 := fun g hg => (h.row.lt g hg).2
        have l4 := fun p hp g hg => ((h.pl p hp).lt g hg).2
        rw [← e] at l0 l1 l2 l3 l4
        exact H5.out.kp HK.out (by simp; omega) (fun g hg => by have := l1 g hg; simp; omega) (fun g hg => by have := l2 g hg; simp; omega) (fun g hg => by have := l3 g hg; simp; omega) (fun p hp g hg => by have := l4 p hp g hg; simp; omega)
      have K6 : Hid (Kp [] w wr) := K5.out.step HK.out (fun n hn => .inr (by simp at hn; omega))
      clear HO HT hT H5 K5 C4 HK
      obtain ⟨w6, hw6⟩ : ∃ w6 : World, w6 = wr := ⟨_, rfl⟩
      rw [← hw6] at TX H6 K6 ⊢
      clear hw6
      obtain ⟨q, hq, hq0, hq1⟩ : ∃ q : Nat, 1 + s % 200 = (q : Int) ∧ 1 ≤ q ∧ q ≤ 200 := ⟨(1 + s % 200).toNat, by omega, by omega, by omega⟩
      rw [hq]
      clear hq
      have HGF : Hid (gt ∉ foot c vd4 vp4) := fun hm => absurd (HGT.out gt hm) (Nat.lt_irrefl _)
      have HGV : Hid (vd4.ownBlock ≠ some gt) := fun hm => HGF.out (mem_foot.2 (.inr (.inl hm)))
      go_loopw [15] (fun i wr => ∃ (k : Nat) (st : CS) (vk : Value) (r : Nat), i = .int .i64 k ∧ k + r ≤ N ∧ Hid (FI N Z (Wf N F l Tf) Tf st r) ∧ Hid (CRep wr w.heap.size c st vd4 vk vp4 ps4) ∧ Hid (Kp [] w wr) ∧ Hid (∀ j, j < 2400 → wr.cell? ⟨gt, j, none⟩ = some (.int .u8 (Tf j)))) (fun i _ => 2400 - (intOf i).toNat)
      case atStart => exact ⟨0, st4, vk4, r, rfl, by omega, FI4, H6, K6, TX⟩
      case round =>
        obtain ⟨k, st, vk, r', rfl, hkr, HF, HC, HK, HX⟩ := hrel
        clear TX H6 K6 FI4
        go_wp2_with fail
        (with_reducible refine (miss_z HC.out HF.out hNZ hZ).mono ?_)
        rintro e w7 hm
        rcases hm with ⟨hfull, hret⟩ | ⟨t, m, hm0, htm, hWT, hnx, hret⟩
        · obtain ⟨rfl, k7⟩ := hret
          have H7 := hid (HC.out.kp0 k7)
          have K7 : Hid (Kp [] w w7) := HK.out.trans k7
          have TX := hid (fun j hj => k7.cell (p := ⟨gt, j, none⟩) (by simp) (HX.out j hj))
          clear HC HK HX k7
          have FL := hid hfull
          have HSZ := HF.out.sz
          have HDL := HF.out.dl
          clear hfull HF
          go_wp2_with fail
          (with_reducible refine (miss_full H7.out FL.out HSZ hZ).mono ?_)
          rintro e w8 ⟨rfl, k8⟩
          have H8 := hid (H7.out.kp0 k8)
          have K8 : Hid (Kp [] w w8) := K7.out.trans k8
          have TX8 := hid (fun j hj => k8.cell (p := ⟨gt, j, none⟩) (by simp) (TX.out j hj))
          clear H7 K7 TX k8
          go_wp2_with fail
          (with_reducible refine (read_full H8.out FL.out HSZ hZ (by rw [← HSZ]; omega)).mono ?_)
          rintro e w9 ⟨vg, G, rfl, hG, hGW, hgo, k9⟩
          have H9 := hid (H8.out.kp0 k9)
          have K9 : Hid (Kp [] w w9) := K8.out.trans k9
          have TX9 := hid (fun j hj => k9.cell (p := ⟨gt, j, none⟩) (by simp) (TX8.out j hj))
          obtain ⟨ag, cg, rfl⟩ := owns_shape hgo
          have GO := hid hgo
          have GW := hid hGW
          clear H8 K8 TX8 k9 hgo hGW
          go_wp2_with fail
          (with_reducible refine (size_any H9.out).mono ?_)
          rintro e w10 ⟨rfl, rfl⟩
          rw [HSZ]
          go_wp2
          go_loopw [23] (fun i wr => ∃ k : Nat, k ≤ Z ∧ i = .int .i64 k ∧ wr = w9) (fun i _ => Z - (intOf i).toNat)
          case atStart => exact ⟨0, by omega, rfl, rfl⟩
          case round =>
            obtain ⟨k, hk, rfl, rfl⟩ := hrel
            by_cases hlt : k < Z
            · obtain ⟨gg, rfl⟩ : ∃ g, ag = some ⟨g, 0, none⟩ := by
                rcases GO.out.2 with ⟨_, h0⟩ | ⟨g, cap, _, h, _⟩
                · omega
                · exact ⟨g, (Value.slice.inj h).1⟩
              have cG := (GO.out.cellAt k (by omega)).trans (bts_at G (by omega))
              rw [GW.out k hlt] at cG
              by_cases h1 : 0 < l.length
              · obtain ⟨gb, ob, rfl, hbc⟩ : ∃ g o, ab = some ⟨g, o, none⟩ ∧ ∀ j, j < l.length → wr.cell? ⟨g, o + j, none⟩ = some (.int .u8 (l.getD j 0)) := by
                  rcases (HB.out h1).kp K9.out (by simp) with ⟨_, h0⟩ | ⟨g, o, cap, h, _, hc⟩
                  · rw [h0] at h1; exact absurd h1 (by simp)
                  · exact ⟨g, o, (Value.slice.inj h).1, fun j hj => hc j _ (bts_at l hj)⟩
                have HBC := hid hbc
                clear hbc
                by_cases h2 : F ≤ k
                · by_cases h3 : k < F + l.length
                  · have hW : Wf N F l Tf k = l.getD (k - F) 0 := if_pos ⟨h1, h2, h3⟩
                    rw [hW] at cG
                    obtain ⟨d, rfl⟩ : ∃ d, k = F + d := ⟨k - F, by omega⟩
                    rw [show F + d - F = d by omega] at cG
                    have cB := HBC.out d (by omega)
                    by_cases hkN : F + d < N
                    · have cT := TX9.out (F + d) (by omega)
                      go_wp2
                      go_roundw
                      case rel => exact ⟨F + d + 1, by omega, by go_num, trivial⟩
                      case measure => simp [intOf]; omega
                    · go_wp2
                      go_roundw
                      case rel => exact ⟨F + d + 1, by omega, by go_num, trivial⟩
                      case measure => simp [intOf]; omega
                  · by_cases hkN : k < N
                    · have cT := TX9.out k (by omega)
                      have hW : Wf N F l Tf k = Tf k := (if_neg (by omega)).trans (if_pos hkN)
                      rw [hW] at cG
                      go_wp2
                      go_roundw
                      case rel => exact ⟨k + 1, by omega, by go_num, trivial⟩
                      case measure => simp [intOf]; omega
                    · have hW : Wf N F l Tf k = 0 := (if_neg (by omega)).trans (if_neg hkN)
                      rw [hW] at cG
                      go_wp2
                      go_roundw
                      case rel => exact ⟨k + 1, by omega, by go_num, trivial⟩
                      case measure => simp [intOf]; omega
                · by_cases hkN : k < N
                  · have cT := TX9.out k (by omega)
                    have hW : Wf N F l Tf k = Tf k := (if_neg (by omega)).trans (if_pos hkN)
                    rw [hW] at cG
                    go_wp2
                    go_roundw
                    case rel => exact ⟨k + 1, by omega, by go_num, trivial⟩
                    case measure => simp [intOf]; omega
                  · have hW : Wf N F l Tf k = 0 := (if_neg (by omega)).trans (if_neg hkN)
                    rw [hW] at cG
                    go_wp2
                    go_roundw
                    case rel => exact ⟨k + 1, by omega, by go_num, trivial⟩
                    case measure => simp [intOf]; omega
              · by_cases hkN : k < N
                · have cT := TX9.out k (by omega)
                  have hW : Wf N F l Tf k = Tf k := (if_neg (by omega)).trans (if_pos hkN)
                  rw [hW] at cG
                  go_wp2
                  go_roundw
                  case rel => exact ⟨k + 1, by omega, by go_num, trivial⟩
                  case measure => simp [intOf]; omega
                · have hW : Wf N F l Tf k = 0 := (if_neg (by omega)).trans (if_neg hkN)
                  rw [hW] at cG
                  go_wp2
                  go_roundw
                  case rel => exact ⟨k + 1, by omega, by go_num, trivial⟩
                  case measure => simp [intOf]; omega
            · go_wp2
              go_ret
              exact ⟨rfl, K9.out⟩
        · obtain ⟨rfl, k7⟩ := hret
          have H7 := hid (HC.out.kp0 k7)
          have K7 : Hid (Kp [] w w7) := HK.out.trans k7
          have TX := hid (fun j hj => k7.cell (p := ⟨gt, j, none⟩) (by simp) (HX.out j hj))
          clear HC HK HX k7
          have HWT := hid hWT
          have NX := hid hnx
          clear hWT hnx
          by_cases hc : (q : Int) < m
          · have hnq := NX.out (Tl t q) (by rw [Tl_len]; omega) (by rw [Tl_len]; omega) (fun i hi => by rw [Tl_len] at hi; rw [Tl_at _ _ _ hi, HWT.out (t + i) (by omega) (by omega)])
            have hLq := hnq.1
            rw [Tl_len] at hLq
            have HLQ := hid hLq
            have HNQ := hid hnq.2
            have HSN := hid (HF.out.snd (by omega))
            have HSZ := HF.out.sz
            have HDL := HF.out.dl
            clear hnq hLq NX HF
            go_wp2_with fail
            (with_reducible refine (fill_i t q t q (Tl t q) gt t (2400 - t) H7.out rfl (Tl_len t q) rfl (by omega) (by omega) (by omega) (by omega) HSN.out.1 HSN.out.2 HLQ.out (by omega) HGV.out (cells_Tl TX.out (by omega))).mono ?_)
            rintro e w8 ⟨vk8, rfl, h8, k8⟩
            obtain ⟨r8, hr8, hf8⟩ := HNQ.out
            go_wp2
            refine ⟨?_, ?measure⟩
            (repeat apply Exists.intro)
            refine ⟨?rel, rfl⟩
            case rel => exact ⟨k + 1, _, _, r8, by go_num, by omega, hf8, h8, K7.out.step k8 (fun n hn => .inr (F4.out n hn)), fun j hj => k8.cell (p := ⟨gt, j, none⟩) HGF.out (TX.out j hj)⟩
            case measure => simp [intOf]; omega
          · have hnq := NX.out (Tl t m) (by rw [Tl_len]; omega) (by rw [Tl_len]; omega) (fun i hi => by rw [Tl_len] at hi; rw [Tl_at _ _ _ hi, HWT.out (t + i) (by omega) (by omega)])
            have hLq := hnq.1
            rw [Tl_len] at hLq
            have HLQ := hid hLq
            have HNQ := hid hnq.2
            have HSN := hid (HF.out.snd (by omega))
            have HSZ := HF.out.sz
            have HDL := HF.out.dl
            clear hnq hLq NX HF
            go_wp2_with fail
            (with_reducible refine (fill_i t m t m (Tl t m) gt t (2400 - t) H7.out rfl (Tl_len t m) rfl (by omega) (by omega) (by omega) (by omega) HSN.out.1 HSN.out.2 HLQ.out (by omega) HGV.out (cells_Tl TX.out (by omega))).mono ?_)
            rintro e w8 ⟨vk8, rfl, h8, k8⟩
            obtain ⟨r8, hr8, hf8⟩ := HNQ.out
            go_wp2
            refine ⟨?_, ?measure⟩
            (repeat apply Exists.intro)
            refine ⟨?rel, rfl⟩
            case rel => exact ⟨k + 1, _, _, r8, by go_num, by omega, hf8, h8, K7.out.step k8 (fun n hn => .inr (F4.out n hn)), fun j hj => k8.cell (p := ⟨gt, j, none⟩) HGF.out (TX.out j hj)⟩
            case measure => simp [intOf]; omega
end Go.Proofs.Ytnffhlbkigipmaa
