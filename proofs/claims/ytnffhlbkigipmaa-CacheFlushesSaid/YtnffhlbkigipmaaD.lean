/- DERIVED. slices.insertionSortCmpFunc on stretches. -/
import Derived.Test.YtnffhlbkigipmaaC
import Derived.Deep.QuietTactic
import Derived.BigQuiet
namespace Go.Proofs.Ytnffhlbkigipmaa
open Go.RowKit Flo
@[go_sem] theorem run_store_complex {P : Program} {w : World} {a : Addr} {m : Mode} (k : FloatKind) (x y : Nat) : (store a (.complex k x y) m).run P w = stored P w a (.complex k x y) m := run_store P w a _ m rfl
def swp (L : List (Nat × Nat)) (j : Nat) : List (Nat × Nat) := (L.set (j + 1) (L.getD j (0, 0))).set j (L.getD (j + 1) (0, 0))
def sink : Nat → List (Nat × Nat) → List (Nat × Nat)
  | 0, L => L
  | j + 1, L => if lo L (j + 1) < lo L j then sink j (swp L j) else L
theorem sink_lt {j : Nat} {L : List (Nat × Nat)} (h : lo L (j + 1) < lo L j) : sink (j + 1) L = sink j (swp L j) := by rw [sink, if_pos h]
theorem sink_ge {j : Nat} {L : List (Nat × Nat)} (h : ¬ lo L (j + 1) < lo L j) : sink (j + 1) L = L := by rw [sink, if_neg h]
def isort : Nat → List (Nat × Nat) → List (Nat × Nat)
  | 0, L => L
  | k + 1, L => sink (k + 1) (isort k L)
theorem swp_len (L : List (Nat × Nat)) (j : Nat) : (swp L j).length = L.length := by simp [swp]
def Lims (L : List (Nat × Nat)) : Prop := ∀ i, i < L.length → Lim (lo L i)
theorem cmpf_lt (a b c d : Nat) (ha : Lim a) (hc : Lim c) (h : a < c) (w : World) :
    Calls Try.prog 35 #[zc a b, zc c d] w fun e w' => e = .returned (.int .i64 (-1)) ∧ w' = w :=
  (cmpf_any a b c d ha hc w).mono fun _ _ ⟨he, hw⟩ => ⟨by rw [he, if_pos h], hw.symm⟩
theorem cmpf_ge (a b c d : Nat) (ha : Lim a) (hc : Lim c) (h : ¬ a < c) (w : World) :
    Calls Try.prog 35 #[zc a b, zc c d] w fun e w' => e = .returned (.int .i64 (if c < a then 1 else 0)) ∧ w' = w :=
  (cmpf_any a b c d ha hc w).mono fun _ _ ⟨he, hw⟩ => ⟨by rw [he, if_neg h], hw.symm⟩
theorem zcs_set (M : List (Nat × Nat)) (j : Nat) (p : Nat × Nat) : (zcs M).set j (zc p.1 p.2) = zcs (M.set j p) := by simp [zcs, List.map_set]
theorem swp_zcs (M : List (Nat × Nat)) (j : Nat) : ((zcs M).set (j + 1) (zc (lo M j) (hi M j))).set j (zc (lo M (j + 1)) (hi M (j + 1))) = zcs (swp M j) := by
  unfold swp lo hi; rw [zcs_set, zcs_set]
theorem lims_swp {M : List (Nat × Nat)} (h : Lims M) {j : Nat} (hj : j + 1 < M.length) : Lims (swp M j) := by
  intro i hi'
  rw [swp_len] at hi'
  unfold lo swp
  by_cases e1 : i = j
  · subst e1; simp [List.getD, hi', show i + 1 < M.length by omega]; have := h (i + 1) hj; simpa [lo, List.getD, hj] using this
  · by_cases e2 : i = j + 1
    · subst e2; simp [List.getD, hi', show j < M.length by omega]; have := h j (by omega); simpa [lo, List.getD, show j < M.length by omega] using this
    · have := h i hi'
      simp [List.getD, show ¬ j = i by omega, show ¬ j + 1 = i by omega]
      simpa [lo, List.getD] using this
set_option maxRecDepth 100000 in
set_option maxHeartbeats 1000000 in
theorem isort_any (base g cap : Nat) (L : List (Nat × Nat)) (w : World) (hL : Lims L) (hl : L.length ≤ 12) (hown : w.ownsRow base 52 1 (.slice (some ⟨g, 0, none⟩) L.length cap) L.length (zcs L)) :
    Calls Try.prog 42 #[.slice (some ⟨g, 0, none⟩) L.length cap, .int .i64 0, .int .i64 L.length, .func (.func 35) #[] #[]] w fun e w' =>
      e = .returned (.tuple #[]) ∧ w'.ownsRow base 52 1 (.slice (some ⟨g, 0, none⟩) L.length cap) L.length (zcs (isort (L.length - 1) L)) ∧ Kp [g] w w' := by
  have HO := hid hown
  have HL := hid hL
  clear hown hL
  go_enter Try.func42, Try.ntmps42
  go_wp2
  go_loopw [8] (fun i wr => ∃ k : Nat, k + 1 ≤ max L.length 1 ∧ i = .int .i64 (k + 1 : Nat) ∧ Hid ((isort k L).length = L.length) ∧ Hid (Lims (isort k L)) ∧ Hid (wr.ownsRow base 52 1 (.slice (some ⟨g, 0, none⟩) L.length cap) L.length (zcs (isort k L))) ∧ Hid (Kp [g] w wr)) (fun i _ => L.length - (intOf i).toNat)
  case atStart => exact ⟨0, by omega, rfl, rfl, HL, HO, Kp.refl _ _⟩
  case round =>
    obtain ⟨k, hk, rfl, Hlen, HLk, HOk, HKk⟩ := hrel
    obtain ⟨wo, hwo⟩ : ∃ wo : World, wo = wr := ⟨_, rfl⟩
    rw [← hwo] at HOk HKk ⊢
    clear hwo
    by_cases hlt : k + 1 < L.length
    · go_wp2
      go_loopw [9] (fun i wr => ∃ (j : Nat) (M : List (Nat × Nat)), j ≤ k + 1 ∧ i = .int .i64 j ∧ Hid (sink j M = isort (k + 1) L) ∧ Hid (M.length = L.length) ∧ Hid (Lims M) ∧ Hid (wr.ownsRow base 52 1 (.slice (some ⟨g, 0, none⟩) L.length cap) L.length (zcs M)) ∧ Hid (Kp [g] w wr)) (fun i _ => (intOf i).toNat)
      case atStart => exact ⟨k + 1, isort k L, by omega, by go_num, rfl, Hlen, HLk, HOk, HKk⟩
      case round =>
        obtain ⟨j, M, hj, rfl, HS, HM, HLM, HOM, HKM⟩ := hrel
        by_cases j0 : j = 0
        · subst j0
          have hd : decide ((0 : Int) > 0) = false := by decide
          go_wp2
          go_quiet (fail)
          go_wp2
          go_roundw
          case rel => exact ⟨k + 1, by omega, by go_num, by show _ = _; rw [← HS.out]; exact HM.out, by show Lims _; rw [← HS.out]; exact HLM.out, by show World.ownsRow _ _ _ _ _ _ _; rw [← HS.out]; exact HOM.out.kp ((Kp.refl [] _).drewN _) (by simp), HKM.out.drewN _⟩
          case measure => simp [intOf]; omega
        · obtain ⟨j, rfl⟩ : ∃ m, j = m + 1 := ⟨j - 1, by omega⟩
          have hml : j + 1 < M.length := by rw [HM.out]; omega
          have c1 := (HOM.out.cellAt (j + 1) (by omega)).trans (zcs_at M hml)
          have c0 := (HOM.out.cellAt j (by omega)).trans (zcs_at M (by omega))
          have l1 : Lim (lo M (j + 1)) := HLM.out _ hml
          have l0 : Lim (lo M j) := HLM.out _ (by omega)
          by_cases hc : lo M (j + 1) < lo M j
          · go_wp2
            go_quiet ((go_at_call 35; exact Calls.quiet_of_same (cmpf_lt _ _ _ _ l1 l0 hc _)))
            have HO2 := hid (HOM.out.kp ((Kp.refl [] _).drewN nq) (by simp))
            have HK2 := hid (HKM.out.drewN nq)
            clear HOM HKM c1 c0 l1 l0
            generalize wr.drewN nq = w2 at *
            have c1 := (HO2.out.cellAt (j + 1) (by omega)).trans (zcs_at M hml)
            have c0 := (HO2.out.cellAt j (by omega)).trans (zcs_at M (by omega))
            have f1 := HO2.out.frozenAt (j + 1)
            have f0 := HO2.out.frozenAt j
            go_wp2
            as_aux_lemma =>
              go_region
              all_goals
                go_wp2
                go_roundw
                case rel =>
                  refine ⟨j, swp M j, by omega, by go_num, ?_, ?_, ?_, ?_, ?_⟩
                  · show _ = _; rw [← HS.out, sink_lt hc]
                  · show _ = _; rw [swp_len]; exact HM.out
                  · exact lims_swp HLM.out hml
                  · show World.ownsRow _ _ _ _ _ _ _
                    rw [← swp_zcs]
                    have q1 := (HO2.out.stored (j + 1) (zc (lo M j) (hi M j))).1
                    have q2 := (q1.stored j (zc (lo M (j + 1)) (hi M (j + 1)))).1
                    exact q2.drew
                  · exact ((HK2.out.setCell (p := ⟨g, j + 1, none⟩) (.inl (by simp)) _).setCell (p := ⟨g, j, none⟩) (.inl (by simp)) _).drew
                case measure => simp [intOf]
          · go_wp2
            have hge : lo M j ≤ lo M (j + 1) := by omega
            have hd : ((if lo M j < lo M (j + 1) then (1 : Int) else 0) < 0) = False := by split <;> simp
            go_quiet ((go_at_call 35; exact Calls.quiet_of_same (cmpf_ge _ _ _ _ l1 l0 hc _)))
            go_wp2
            go_roundw
            case rel => exact ⟨k + 1, by omega, by go_num, by show _ = _; rw [← HS.out]; rw [sink_ge hc]; exact HM.out, by show Lims _; rw [← HS.out]; rw [sink_ge hc]; exact HLM.out, by show World.ownsRow _ _ _ _ _ _ _; rw [← HS.out]; rw [sink_ge hc]; exact HOM.out.kp ((Kp.refl [] _).drewN _) (by simp), HKM.out.drewN _⟩
            case measure => simp [intOf]; omega
    · go_wp2
      go_end0
      have e : k = L.length - 1 := by omega
      subst e
      exact ⟨rfl, HOk.out, HKk.out⟩
end Go.Proofs.Ytnffhlbkigipmaa
