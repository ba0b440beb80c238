/- DERIVED. awake answers true. -/
import Derived.Test.YtnffhlbkigipmaaU
import Derived.Lib.SlBytesConst
namespace Go.Proofs.Ytnffhlbkigipmaa
open Go.RowKit Flo
section
variable {w : World} {B c : Nat} {st : CS} {vd vk vp : Value} {ps : List Pc}
theorem missing_i (pi : Int) (p q : Nat) (s : Int) (h : CRep w B c st vd vk vp ps) (hp : pi = p) (h2 : 0 ≤ s) (h3 : p < st.size) (hq : min s (st.size - p) = q) (q0 : 0 < q) (hz : st.size ≤ 9728) (hk : Snd st.kn) (hkl : st.kn.length ≤ 3) (L : List (Nat × Nat)) (hL : L = lessF [(p, p + q)] st.kn)
    (hg : ∀ i, i < L.length → lo L i < hi L i ∧ Lim (hi L i)) : Calls Try.prog 9 #[cptr c, .int .i64 pi, .int .i64 s] w (MissP w L) := by
  subst hp; exact missing_yes p q s h h2 h3 hq q0 hz hk hkl L hL hg
theorem fill_i (pi ni : Int) (p n : Nat) (l : List Int) (gs os cs : Nat) (h : CRep w B c st vd vk vp ps) (hp : pi = p) (hn : l.length = n) (hni : ni = n) (hl : 0 < n) (h3 : p + n ≤ st.size) (hz : st.size ≤ 9728) (hd : st.size ≤ st.dat.length) (hk : Snd st.kn) (hkl : st.kn.length ≤ 3)
    (hL : lessF [(p, p + n)] st.kn = [(p, p + n)]) (hcs : n ≤ cs) (hgs : vd.ownBlock ≠ some gs) (hsrc : ∀ j u, (bts l)[j]? = some u → w.cell? ⟨gs, os + j, none⟩ = some u) :
    Calls Try.prog 10 #[cptr c, .int .i64 pi, .int .i64 ni, .slice (some ⟨gs, os, none⟩) n cs] w (FillP w B c (fillC st p l) vd vp ps) := by
  subst hp hni hn; exact fill_yes p l gs os cs h hl h3 hz hd hk hkl hL hcs hgs hsrc
theorem write_i (pi : Int) (a n : Nat) (l : List Int) (gs os cs : Nat) (h : CRep w B c st vd vk vp ps) (hp : pi = a) (hn : l.length = n) (hl : 0 < n) (ha : a + n ≤ 9728) (hm : st.mode = 2) (hps : ps.length < 16)
    (hz : st.size ≤ 9728) (hd : st.size ≤ st.dat.length) (hd2 : st.dat.length ≤ 20000) (hk : Gds st.kn) (hkl : st.kn.length ≤ 3)
    (hk1 : Gds (gapC (growC st (a + n)) a).kn) (hkl1 : (gapC (growC st (a + n)) a).kn.length ≤ 3)
    (hgs : gs ∉ foot c vd vp) (hgl : gs < w.heap.size) (hsrc : ∀ j u, (bts l)[j]? = some u → w.cell? ⟨gs, os + j, none⟩ = some u) :
    Calls Try.prog 8 #[cptr c, .int .i64 pi, .slice (some ⟨gs, os, none⟩) n cs] w (WriteP w B c (writeC st a l) vd vp) := by
  subst hp hn; exact write_some a l gs os cs h hl ha hm hps hz hd hd2 hk hkl hk1 hkl1 hgs hgl hsrc
end
def s1 : CS := leaseC cs0 5 10
def digs : List Int := [48, 49, 50, 51, 52, 53, 54, 55, 56, 57]
def s2 : CS := fillC s1 0 digs
def s3 : CS := writeC s2 3 [97, 98]
theorem s1_kn : s1.kn = [] := by decide
theorem s2_kn : s2.kn = [(0, 10)] := by decide
theorem s3_kn : s3.kn = [(0, 10)] := by decide
theorem s1_dat : s1.dat = [0, 0, 0, 0, 0, 0, 0, 0, 0, 0] := by decide
theorem s2_dat : s2.dat = digs := by decide
theorem s3_dat : s3.dat = [48, 49, 50, 97, 98, 53, 54, 55, 56, 57] := by decide
theorem s3_dirty : s3.dirty = [(3, [97, 98])] := by decide
theorem s3_read : readF s3 2 4 = [50, 97, 98, 53] := by decide
theorem s2_gap : (gapC (growC s2 5) 3).kn = [(0, 10)] := by decide
theorem less_s1 : lessF [(0, 10)] s1.kn = [(0, 10)] := by decide
theorem snd_nil : Snd [] := ⟨fun i hi' => by simp at hi', fun i hi' => by simp at hi', fun i hi' => by simp at hi'⟩
theorem gds_of_snd {L : List (Nat × Nat)} (h : Snd L) : Gds L := ⟨h.lt, h.lim⟩
/-- The blocks of a cache lie from W on. -/
theorem foot_new {c : Nat} {vd vp : Value} {W : Nat} (hc : W ≤ c) (hd : ∀ k, vd.ownBlock = some k → W ≤ k) (hp : ∀ k, vp.ownBlock = some k → W ≤ k) : ∀ k ∈ foot c vd vp, W ≤ k := by
  intro k hk
  rcases mem_foot.1 hk with e | e | e
  · omega
  · exact hd k e
  · exact hp k e
theorem lim10 : ∀ i, i < [((0, 10) : Nat × Nat)].length → lo [(0, 10)] i < hi [(0, 10)] i ∧ Lim (hi [(0, 10)] i) := by
  intro i hi'
  simp at hi'; subst hi'; simp [lo, hi, Lim]
theorem cells_alloc (w : World) (C : Array Value) (t : TypeId) (fr : Nat × Nat) (l : List Int) (hC : C.toList = bts l) : ∀ j u, (bts l)[j]? = some u → (w.alloc (.cells C t fr)).cell? ⟨w.heap.size, 0 + j, none⟩ = some u := by
  intro j u hu
  rw [← hC] at hu
  have := heap_alloc_new w (.cells C t fr)
  simp only [World.cell?, this, Nat.zero_add]
  simpa using hu
theorem gds10 : Gds [(0, 10)] := ⟨fun i hi' => (lim10 i hi').1, fun i hi' => (lim10 i hi').2⟩
theorem snd10 : Snd [(0, 10)] := ⟨fun i hi' => (lim10 i hi').1, fun i hi' => (lim10 i hi').2, fun i hi' => by simp at hi'⟩
set_option maxRecDepth 100000 in
set_option maxHeartbeats 2000000 in
theorem awake_any (w : World) : Calls Try.prog 6 #[] w fun e w' => e = .returned (.bool true) ∧ Kp [] w w' := by
  go_enter Try.func6, Try.ntmps6
  go_wp2_with fail
  (with_reducible refine (new_any w).mono ?_)
  rintro e w1 ⟨c, rfl, hc, h1, k1⟩
  have H1 := hid h1
  have K1 := hid k1
  clear h1 k1
  go_wp2_with fail
  (with_reducible refine (lease_any 5 10 H1.out (by omega) (by omega) (by simp [cs0]) (by omega) (by omega)).mono ?_)
  rintro e w2 ⟨vd2, vk2, rfl, h2, k2, hv2⟩
  have K2 : Hid (Kp [] w w2) := K1.out.step k2 (fun n hn => .inr (foot_new hc (by simp [Value.ownBlock]) (by simp [Value.ownBlock]) n hn))
  have hv2' : ∀ k, vd2.ownBlock = some k → w.heap.size ≤ k := by
    intro k hk
    rcases hv2 with e | e
    · rw [e] at hk; simp [Value.ownBlock] at hk
    · have := e k hk; have := K1.out.size; omega
  have HV2 := hid hv2'
  have H2 : Hid (CRep w2 w.heap.size c s1 vd2 vk2 (.slice none 0 0) []) := h2
  clear h2 k2 hv2 hv2'
  go_wp2_with fail
  (with_reducible refine (missing_i 0 0 10 99 H2.out rfl (by omega) (by decide) (by decide) (by omega) (by decide) (by rw [s1_kn]; exact snd_nil) (by rw [s1_kn]; simp) [(0, 10)] less_s1.symm lim10).mono ?_)
  rintro e w3 h3
  have h3' : Ret3 w2 0 10 true e w3 := h3
  obtain ⟨rfl, k3⟩ := h3'
  clear h3
  have H3 := hid (H2.out.kp0 k3)
  have K3 : Hid (Kp [] w w3) := K2.out.trans k3
  clear k3
  have hct := fun (w : World) C n c => Lib.run_convert_bytes_const (P := Try.prog) w 23 5 C n c Try.underlying23 Try.underlying5
  go_wp2_with fail
  have k4 : Kp [] w3 (w3.alloc (.cells #[.int .u8 48, .int .u8 49, .int .u8 50, .int .u8 51, .int .u8 52, .int .u8 53, .int .u8 54, .int .u8 55, .int .u8 56, .int .u8 57] 5 (10, 11))) := (Kp.refl _ _).alloc _
  have hs4 := cells_alloc w3 #[.int .u8 48, .int .u8 49, .int .u8 50, .int .u8 51, .int .u8 52, .int .u8 53, .int .u8 54, .int .u8 55, .int .u8 56, .int .u8 57] 5 (10, 11) digs rfl
  generalize (w3.alloc (.cells #[.int .u8 48, .int .u8 49, .int .u8 50, .int .u8 51, .int .u8 52, .int .u8 53, .int .u8 54, .int .u8 55, .int .u8 56, .int .u8 57] 5 (10, 11))) = w4 at *
  have h4 := H3.out.kp0 k4
  have hgs4 : vd2.ownBlock ≠ some w3.heap.size := by
    intro e; have := (H3.out.dat.lt _ e).2; omega
  have K4 : Hid (Kp [] w w4) := K3.out.trans k4
  (with_reducible refine (fill_i 0 10 0 10 digs w3.heap.size 0 10 h4 rfl rfl rfl (by omega) (by decide) (by decide) (by rw [s1_dat]; decide) (by rw [s1_kn]; exact snd_nil) (by rw [s1_kn]; simp) less_s1 (by omega) hgs4 hs4).mono ?_)
  rintro e w5 ⟨vk5, rfl, h5, k5⟩
  have H5 : Hid (CRep w5 w.heap.size c s2 vd2 vk5 (.slice none 0 0) []) := h5
  have K5 : Hid (Kp [] w w5) := K4.out.step k5 (fun n hn => .inr (foot_new hc HV2.out (by simp [Value.ownBlock]) n hn))
  clear h5 k5 h4 hgs4 hs4 k4
  go_wp2_with fail
  have k6 : Kp [] w5 (w5.alloc (.cells #[.int .u8 97, .int .u8 98] 5 (2, 3))) := (Kp.refl _ _).alloc _
  have hs6 := cells_alloc w5 #[.int .u8 97, .int .u8 98] 5 (2, 3) [97, 98] rfl
  have hl6 : w5.heap.size < (w5.alloc (.cells #[.int .u8 97, .int .u8 98] 5 (2, 3))).heap.size := by simp
  generalize (w5.alloc (.cells #[.int .u8 97, .int .u8 98] 5 (2, 3))) = w6 at *
  have h6 := H5.out.kp0 k6
  have hgs6 : w5.heap.size ∉ foot c vd2 (.slice none 0 0) := by
    intro e
    rcases mem_foot.1 e with e | e | e
    · have := H5.out.lt; omega
    · have := (H5.out.dat.lt _ e).2; omega
    · simp [Value.ownBlock] at e
  have K6 : Hid (Kp [] w w6) := K5.out.trans k6
  (with_reducible refine (write_i 3 3 2 [97, 98] w5.heap.size 0 2 h6 rfl rfl (by omega) (by omega) (by decide) (by simp) (by decide) (by rw [s2_dat]; decide) (by rw [s2_dat]; decide) (by rw [s2_kn]; exact gds10) (by rw [s2_kn]; simp) (by rw [s2_gap]; exact gds10) (by rw [s2_gap]; simp) hgs6 hl6 hs6).mono ?_)
  rintro e w7 ⟨vd7, vk7, vp7, ps7, rfl, h7, k7, hf7⟩
  have K7 : Hid (Kp [] w w7) := K6.out.step k7 (fun n hn => .inr (foot_new hc HV2.out (by simp [Value.ownBlock]) n hn))
  have h7' : CRep w7 w.heap.size c s3 vd7 vk7 vp7 ps7 := h7
  have hps : ps7.map (fun p => (p.at_, p.data)) = [(3, [97, 98])] := by rw [← h7'.dy, s3_dirty]
  obtain ⟨pc, rfl⟩ : ∃ p, ps7 = [p] := List.length_eq_one_iff.1 (by simpa using congrArg List.length hps)
  obtain ⟨hpa, hpd⟩ : pc.at_ = 3 ∧ pc.data = [97, 98] := by simpa using hps
  have H7 := hid h7'
  have HPA := hid hpa
  have HPD := hid hpd
  clear h7 h7' k7 hf7 hps hpa hpd h6 hgs6 hs6 hl6 k6
  go_wp2_with fail
  (with_reducible refine (first_yes pc H7.out (by rw [HPD.out]; simp)).mono ?_)
  rintro e w8 ⟨v8, rfl, hr8, k8⟩
  rw [HPA.out]
  have H8 := hid (H7.out.kp0 k8)
  have K8 : Hid (Kp [] w w8) := K7.out.trans k8
  obtain ⟨a8, cap8, rfl⟩ := rd_shape hr8
  clear k8 hr8
  go_wp2_with fail
  have k9 : Kp [] w8 (w8.alloc (.cells #[.int .i64 3, .slice a8 pc.data.length cap8] 39)) := (Kp.refl _ _).alloc _
  generalize (w8.alloc (.cells #[.int .i64 3, .slice a8 pc.data.length cap8] 39)) = w9 at *
  have H9 := hid (H8.out.kp0 k9)
  have K9 : Hid (Kp [] w w9) := K8.out.trans k9
  clear k9
  (with_reducible refine (read_yes 2 4 H9.out (by omega) (by omega) (by decide) (by decide) (by rw [s3_dat]; decide)).mono ?_)
  rintro e w10 ⟨v10, rfl, ho10, k10⟩
  rw [s3_read] at ho10
  obtain ⟨g10, cap10, rfl⟩ : ∃ g cap, v10 = .slice (some ⟨g, 0, none⟩) 4 cap := by
    rcases ho10.2 with ⟨_, h0⟩ | ⟨g, cap, _, h, _⟩
    · simp at h0
    · exact ⟨g, cap, h⟩
  have hcv := run_convert_bytes_arg (P := Try.prog) w10 23 5 Try.underlying23 Try.underlying5 g10 0 4 cap10 [50, 97, 98, 53] rfl (fun i hi' => by
    have := ho10.cellAt i (by simpa using hi')
    rw [Nat.zero_add, this, bts_at _ (by simpa using hi')]) 9 Try.underlying9
  have hst : strOfNums [50, 97, 98, 53] = ⟨#[50, 97, 98, 53]⟩ := by decide
  rw [hst] at hcv
  have H10 := hid (H9.out.kp0 k10)
  have K10 : Hid (Kp [] w w10) := K9.out.trans k10
  clear k10 ho10 hst
  go_wp2_with fail
  (with_reducible refine (valid_yes 20 5 H10.out (by decide) (by decide) (by omega) (by omega) (by omega) (by omega) (by omega)).mono ?_)
  rintro e w11 ⟨rfl, n11, hw11⟩
  have k11 : Kp [] w10 w11 := by rw [hw11]; exact (Kp.refl _ _).drewN _
  have H11 := hid (H10.out.kp0 k11)
  have K11 : Hid (Kp [] w w11) := K10.out.trans k11
  clear k11 hw11 hcv
  go_wp2_with fail
  (with_reducible refine (valid_no 21 5 H11.out (by decide) (by decide) (by omega) (by omega) (by omega) (by omega) (by omega)).mono ?_)
  rintro e w12 ⟨rfl, n12, hw12⟩
  have k12 : Kp [] w11 w12 := by rw [hw12]; exact (Kp.refl _ _).drewN _
  have H12 := hid (H11.out.kp0 k12)
  have K12 : Hid (Kp [] w w12) := K11.out.trans k12
  clear k12 hw12
  go_wp2_with fail
  (with_reducible refine (dirty_any H12.out).mono ?_)
  rintro e w13 ⟨rfl, rfl⟩
  go_wp2
  go_ret
  exact ⟨rfl, K12.out⟩
end Go.Proofs.Ytnffhlbkigipmaa
