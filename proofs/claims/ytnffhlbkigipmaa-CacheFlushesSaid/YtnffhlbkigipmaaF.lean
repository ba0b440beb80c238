/- DERIVED. reach.Join on at most four stretches. -/
import Derived.Test.YtnffhlbkigipmaaE
namespace Go.Proofs.Ytnffhlbkigipmaa
open Go.RowKit Flo
def joinStep (out : List (Nat × Nat)) (z : Nat × Nat) : List (Nat × Nat) :=
  if out.length = 0 ∨ hi out (out.length - 1) < z.1 then out ++ [z] else out.set (out.length - 1) (lo out (out.length - 1), max (hi out (out.length - 1)) z.2)
def joinF (S : List (Nat × Nat)) : List (Nat × Nat) := S.foldl joinStep []
theorem joinF_take (S : List (Nat × Nat)) {k : Nat} (h : k < S.length) : joinF (S.take (k + 1)) = joinStep (joinF (S.take k)) (lo S k, hi S k) := by
  rw [take_snocL S h]; simp [joinF]
theorem joinStep_add {out : List (Nat × Nat)} {z : Nat × Nat} (h : out.length = 0 ∨ hi out (out.length - 1) < z.1) : joinStep out z = out ++ [z] := by rw [joinStep, if_pos h]
theorem joinStep_mend {out : List (Nat × Nat)} {z : Nat × Nat} (h : ¬ (out.length = 0 ∨ hi out (out.length - 1) < z.1)) :
    joinStep out z = out.set (out.length - 1) (lo out (out.length - 1), max (hi out (out.length - 1)) z.2) := by rw [joinStep, if_neg h]
/-- Each is a stretch. -/
structure Gds (L : List (Nat × Nat)) : Prop where
  lt : ∀ i, i < L.length → lo L i < hi L i
  lim : ∀ i, i < L.length → Lim (hi L i)
theorem Gds.lims {L : List (Nat × Nat)} (h : Gds L) : Lims L := fun i hi' => by have := h.lt i hi'; have := h.lim i hi'; unfold Lim at *; omega
theorem joinStep_lim {out : List (Nat × Nat)} {z : Nat × Nat} (ho : ∀ i, i < out.length → Lim (hi out i)) (hz : Lim z.2) : ∀ i, i < (joinStep out z).length → Lim (hi (joinStep out z) i) := by
  intro i hi'
  by_cases h : out.length = 0 ∨ hi out (out.length - 1) < z.1
  · rw [joinStep_add h] at *
    unfold hi
    by_cases e : i < out.length
    · have := ho i e; simpa [hi, List.getD, List.getElem?_append, e] using this
    · simp at hi'
      obtain rfl : i = out.length := by omega
      simpa [List.getD] using hz
  · rw [joinStep_mend h] at *
    simp at hi'
    unfold hi
    by_cases e : out.length - 1 = i
    · subst e
      have := ho (out.length - 1) (by omega)
      have h2 : Lim (max (hi out (out.length - 1)) z.2) := by unfold Lim at *; omega
      simpa [hi, List.getD, hi'] using h2
    · have := ho i hi'
      simpa [hi, List.getD, e] using this
theorem neg_fb {m : Nat} (hm : Lim m) : (FloatKind.f64.decode (fb m)).neg = false := by
  by_cases h : m = 0
  · subst h; have : FloatKind.f64.decode (fb 0) = _ := read_zero; rw [this]; rfl
  · have : FloatKind.f64.decode (fb m) = _ := read_pos h hm.lt; rw [this]; rfl
@[go_sem] theorem run_max_fb {P : Program} {w : World} (ts : Array TypeId) (t : TypeId) {m n : Nat} (hm : Lim m) (hn : Lim n) :
    (Builtin.max_ ts t #[.float .f64 (fb m), .float .f64 (fb n)]).run P w = .ok (.float .f64 (fb (max m n))) w := by
  have h := ord_fb hm hn
  have h2 := neg_fb hm
  rcases Nat.lt_trichotomy m n with c | c | c
  · have e : compare m n = .lt := by simp [compare, compareOfLessAndEq, c]
    rw [e] at h
    rw [Nat.max_eq_right (by omega)]
    simp [Builtin.max_, Builtin.max2, h]
  · subst c
    have e : compare m m = .eq := by simp [compare, compareOfLessAndEq]
    rw [e] at h
    simp [Builtin.max_, Builtin.max2, h, h2]
  · have e : compare m n = .gt := by simp only [compare, compareOfLessAndEq]; rw [if_neg (by omega), if_neg (by omega)]
    rw [e] at h
    rw [Nat.max_eq_left (by omega)]
    simp [Builtin.max_, Builtin.max2, h]
theorem isort_keeps (k : Nat) (L : List (Nat × Nat)) : (isort k L).length = L.length := by
  induction k with
  | zero => rfl
  | succ k ih =>
    rw [isort]
    suffices ∀ j M, (sink j M).length = M.length by rw [this, ih]
    intro j
    induction j with
    | zero => intro M; rfl
    | succ j ih2 => intro M; rw [sink]; split
                    · rw [ih2, swp_len]
                    · rfl
theorem joinStep_len (out : List (Nat × Nat)) (z : Nat × Nat) : (joinStep out z).length ≤ out.length + 1 := by
  unfold joinStep; split <;> simp
theorem joinF_len (S : List (Nat × Nat)) : (joinF S).length ≤ S.length := by
  unfold joinF
  suffices ∀ o : List (Nat × Nat), (S.foldl joinStep o).length ≤ o.length + S.length by simpa using this []
  induction S with
  | nil => intro o; simp
  | cons p S ih => intro o; have := ih (joinStep o p); have := joinStep_len o p; simp only [List.foldl_cons, List.length_cons]; omega
set_option maxRecDepth 100000 in
set_option maxHeartbeats 1000000 in
theorem join_some {base : Nat} {v : Value} {L S : List (Nat × Nat)} {w : World} (h : Rd w base v L.length (zcs L)) (hn : L ≠ []) (hl : L.length ≤ 4) (hL : Lims L) (hS : S = isort (L.length - 1) L) (hG : Gds S) :
    Calls Try.prog 29 #[v] w (NewZ2 w (joinF S)) := by
  have Hv := hid h
  have HL := hid hL
  have HN := hid hn
  have HG := hid hG
  have HE : Hid (zcs (isort (L.length - 1) L) = zcs S) := by rw [hS]; rfl
  have hSl : S.length = L.length := by rw [hS]; exact isort_keeps _ _
  have HSl := hid hSl
  clear h hL hn hS hG hSl
  go_enter Try.func29, Try.ntmps29
  go_wp2_with fail
  (with_reducible refine (cloneZ Hv.out (by omega)).mono ?_)
  rintro e w1 ⟨v1, rfl, ho, hk⟩
  have HO1 := hid ho
  have HK1 := hid hk
  clear ho hk
  go_wp2_with fail
  (with_reducible refine (sortFunc_small HL.out hl HN.out HO1.out).mono ?_)
  rintro e w2 ⟨rfl, ho, hk⟩
  rw [HE.out] at ho
  obtain ⟨g, cap, hv1⟩ : ∃ g cap, v1 = .slice (some ⟨g, 0, none⟩) L.length cap := by
    rcases HO1.out.2 with ⟨_, h0⟩ | ⟨g, cap, cur, rfl, r⟩
    · exact absurd (by simpa using h0) HN.out
    · exact ⟨_, _, rfl⟩
  subst hv1
  have HK2 : Hid (Kp [] w w2) := HK1.out.step hk (by
    intro n hn
    have := (HO1.out.lt n (by simp [Value.ownBlock] at hn ⊢; exact hn.symm)).1
    exact .inr this)
  have hgl : g < w2.heap.size := (ho.lt g rfl).2
  have HO2 := hid ho
  clear ho hk HO1 HK1
  go_wp2_with fail
  go_loopw [5, 15] (fun v i wr => ∃ (k : Nat) (O : List (Nat × Nat)), k ≤ L.length ∧ i = .int .i64 k ∧ Hid (joinF (S.take k) = O) ∧ Hid (∀ i, i < O.length → Lim (hi O i)) ∧ O.length ≤ k ∧ Hid (wr.ownsRow w2.heap.size 52 1 v O.length (zcs O)) ∧ Hid (Kp [] w2 wr)) (fun _ i _ => L.length - (intOf i).toNat)
  case atStart => exact ⟨0, [], Nat.zero_le _, rfl, rfl, fun i hi' => by simp at hi', Nat.le_refl _, World.ownsRow_nil _ _ _ _, Kp.refl _ _⟩
  case round =>
    obtain ⟨k, O, hk, rfl, HJ, HOl, hlo, HOo, HKo⟩ := hrel
    by_cases hlt : k < L.length
    · have hks : k < S.length := by rw [HSl.out]; exact hlt
      have hz := HKo.out.cell (p := ⟨g, k, none⟩) (by simp) ((HO2.out.cellAt k (by omega)).trans (zcs_at S hks))
      have l1 := HG.out.lt k hks
      have l2 : Lim (hi S k) := HG.out.lim k hks
      have l3 : Lim (lo S k) := by unfold Lim at *; omega
      have HT := hid (joinF_take S hks)
      by_cases hO : O.length = 0
      · obtain rfl : O = [] := by simpa using hO
        obtain ⟨ao, cp, rfl⟩ : ∃ ao cp, u5 = .slice ao 0 cp := by
          rcases HOo.out.2 with ⟨h, _⟩ | ⟨_, _, _, h, _⟩
          · exact ⟨_, _, h⟩
          · exact ⟨_, _, h⟩
        have HR : Hid (joinF (S.take (k + 1)) = [(lo S k, hi S k)]) := by show _ = _; rw [HT.out, HJ.out, joinStep_add (.inl rfl)]; rfl
        go_wp2_with (first
          | ((with_reducible refine (good_yes _ _ l1 l2 _).mono ?_); rintro e w' ⟨rfl, rfl⟩)
          | (at_builtin; refine app52 rfl (.tmp 37) (.tmp 39) rfl w2.heap.size _ 0 [] rfl (HOo.out.alloc _) ⟨wr.heap.size, 0, none⟩ 1 1 [zc (lo S k) (hi S k)] rfl rfl cell_one one_zc (by omega) (by have := HKo.out.size; simp; omega) ?_))
        intro v' w' hown' hgrow _
        have hk' := (HKo.out.alloc (.cells #[zc (lo S k) (hi S k)] 52)).grown hgrow (fun k hk => .inr ((HOo.out.lt k hk).1))
        have HO3 := hid hown'
        have HK3 := hid hk'
        clear hown' hgrow hk' HOo HKo
        go_wp2
        go_roundw
        case rel => exact ⟨k + 1, [(lo S k, hi S k)], by omega, by go_num, HR, fun i hi' => by simp at hi'; subst hi'; exact l2, by simp, HO3.out, HK3⟩
        case measure => simp [intOf]; omega
      · obtain ⟨go, cp, rfl⟩ : ∃ go cp, u5 = .slice (some ⟨go, 0, none⟩) O.length cp := by
          rcases HOo.out.2 with ⟨_, h⟩ | ⟨go, cp, _, h, _⟩
          · exact absurd h hO
          · exact ⟨_, _, h⟩
        have hlast := (HOo.out.cellAt (O.length - 1) (by omega)).trans (zcs_at O (by omega))
        have hfr := HOo.out.frozenAt (O.length - 1)
        have l4 : Lim (hi O (O.length - 1)) := HOl.out _ (by omega)
        have hge : 1 ≤ O.length := by omega
        have hne : ((O.length : Int) == 0) = false := by rw [beq_eq_false_iff_ne]; omega
        by_cases hc : hi O (O.length - 1) < lo S k
        · have HR : Hid (joinF (S.take (k + 1)) = O ++ [(lo S k, hi S k)]) := by show _ = _; rw [HT.out, HJ.out, joinStep_add (z := (lo S k, hi S k)) (.inr hc)]
          go_wp2_with (first
            | ((with_reducible refine (good_yes _ _ l1 l2 _).mono ?_); rintro e w' ⟨rfl, rfl⟩)
            | (at_builtin; refine app52 rfl (.tmp 37) (.tmp 39) rfl w2.heap.size _ O.length (zcs O) rfl (HOo.out.alloc _) ⟨wr.heap.size, 0, none⟩ 1 1 [zc (lo S k) (hi S k)] rfl rfl cell_one one_zc (by omega) (by have := HKo.out.size; simp; omega) ?_))
          intro v' w' hown' hgrow _
          have hk' := (HKo.out.alloc (.cells #[zc (lo S k) (hi S k)] 52)).grown hgrow (fun k hk => .inr ((HOo.out.lt k hk).1))
          rw [zcs_append O (lo S k, hi S k)] at hown'
          have HO3 := hid hown'
          have HK3 := hid hk'
          clear hown' hgrow hk' HOo HKo
          go_wp2
          go_roundw
          case rel => exact ⟨k + 1, O ++ [(lo S k, hi S k)], by omega, by go_num, HR, by have := joinStep_lim HOl.out (z := (lo S k, hi S k)) l2; rw [joinStep_add (z := (lo S k, hi S k)) (.inr hc)] at this; exact this, by simp; omega, by show World.ownsRow _ _ _ _ _ _ _; simpa using HO3.out, HK3⟩
          case measure => simp [intOf]; omega
        · go_wp2_with ((with_reducible refine (good_yes _ _ l1 l2 _).mono ?_); rintro e w' ⟨rfl, rfl⟩)
          have HR : Hid (joinF (S.take (k + 1)) = O.set (O.length - 1) (lo O (O.length - 1), max (hi O (O.length - 1)) (hi S k))) := by
            show _ = _; rw [HT.out, HJ.out, joinStep_mend (z := (lo S k, hi S k)) (by omega)]
          have HST := hid (HOo.out.stored (O.length - 1) (zc (lo O (O.length - 1)) (max (hi O (O.length - 1)) (hi S k)))).1
          have hgo := (HOo.out.lt go rfl).1
          have HL2 : Hid (∀ i, i < (O.set (O.length - 1) (lo O (O.length - 1), max (hi O (O.length - 1)) (hi S k))).length → Lim (hi (O.set (O.length - 1) (lo O (O.length - 1), max (hi O (O.length - 1)) (hi S k))) i)) := by
            have := joinStep_lim HOl.out (z := (lo S k, hi S k)) l2; rw [joinStep_mend (z := (lo S k, hi S k)) (by omega)] at this; exact this
          as_aux_lemma =>
            go_region
            all_goals
              go_wp2
              go_roundw
              case rel =>
                refine ⟨k + 1, _, by omega, by go_num, HR, HL2, by simp; omega, ?_, ?_⟩
                · show World.ownsRow _ _ _ _ _ _ _
                  rw [← zcs_set O (O.length - 1) (lo O (O.length - 1), max (hi O (O.length - 1)) (hi S k)), List.length_set]
                  exact HST.out.drew
                · exact (HKo.out.setCell (p := ⟨go, O.length - 1, none⟩) (.inr hgo) _).drew
              case measure => simp [intOf]; omega
    · obtain rfl : k = L.length := by omega
      have HJ2 : Hid (O = joinF S) := by show _ = _; rw [← HJ.out, ← HSl.out, List.take_length]
      go_wp2_with ((with_reducible refine (clipZ HOo.out).mono ?_); rintro e w' ⟨v', rfl, hrd, rfl⟩; have HR := hid hrd; clear hrd)
      go_ret2
      have hk := HK2.out.step HKo.out (by simp)
      rw [HJ2.out] at HR
      exact ⟨v', rfl, HR.out.down HK2.out.size, hk⟩
theorem zcs_ne {L : List (Nat × Nat)} (h : L ≠ []) : L.length ≠ 0 := by simpa using h
end Go.Proofs.Ytnffhlbkigipmaa
