/- DERIVED. Sound, slices.Clone and slices.Clip on stretches. -/
import Derived.Test.YtnffhlbkigipmaaA
import Derived.Test.YtnffhlbkigipmaaMem
namespace Go.Proofs.Ytnffhlbkigipmaa
open Go.RowKit Flo
theorem Try.info52 : (Try.prog.info? 52).map (fun i => (i.zero, i.size, i.bytes)) = some (some (.complex .f64 0 0), 1, 16) := by kernel_rfl
def zcs (L : List (Nat × Nat)) : List Value := L.map fun p => zc p.1 p.2
theorem zcs_len (L : List (Nat × Nat)) : (zcs L).length = L.length := by simp [zcs]
theorem zcs_one (L : List (Nat × Nat)) : ∀ u ∈ zcs L, u.oneCell' = true := by
  intro u hu; simp only [zcs, List.mem_map] at hu; obtain ⟨p, _, rfl⟩ := hu; rfl
/-- The i-th stretch. -/
def lo (L : List (Nat × Nat)) (i : Nat) : Nat := (L.getD i (0, 0)).1
def hi (L : List (Nat × Nat)) (i : Nat) : Nat := (L.getD i (0, 0)).2
theorem zcs_at (L : List (Nat × Nat)) {i : Nat} (h : i < L.length) : (zcs L)[i]? = some (zc (lo L i) (hi L i)) := by
  simp [zcs, lo, hi, List.getD, h]
/-- A sound set. -/
structure Snd (L : List (Nat × Nat)) : Prop where
  lt : ∀ i, i < L.length → lo L i < hi L i
  lim : ∀ i, i < L.length → Lim (hi L i)
  gap : ∀ i, i + 1 < L.length → hi L i < lo L (i + 1)

set_option maxRecDepth 100000 in
set_option maxHeartbeats 400000 in
theorem sound_nil (a : Option Addr) (cap : Nat) (w : World) :
    Calls Try.prog 31 #[.slice a 0 cap] w fun e w' => e = .returned (.bool true) ∧ w = w' := by
  go_enter Try.func31, Try.ntmps31
  go_wp2
  refine wp_loop_once ?_
  go_wp2
  go_ret
  exact ⟨rfl, rfl⟩
set_option maxRecDepth 100000 in
set_option maxHeartbeats 400000 in
theorem sound_some (g cap : Nat) (L : List (Nat × Nat)) (w : World) (hS : Snd L) (hL : L.length ≤ 1000) (hc : ∀ j u, (zcs L)[j]? = some u → w.cell? ⟨g, j, none⟩ = some u) :
    Calls Try.prog 31 #[.slice (some ⟨g, 0, none⟩) L.length cap] w fun e w' => e = .returned (.bool true) ∧ w = w' := by
  have HS := hid hS
  have HC := hid hc
  clear hS hc
  go_enter Try.func31, Try.ntmps31
  go_wp2
  go_loop [7] (fun i => ∃ k : Nat, k ≤ L.length ∧ i = .int .i64 k) (fun i => L.length - (intOf i).toNat)
  case atStart => exact ⟨0, Nat.zero_le _, rfl⟩
  case round =>
    obtain ⟨k, hk, rfl⟩ := hrel
    by_cases hlt : k < L.length
    · have hz := HC.out k _ (zcs_at L hlt)
      have h1 := HS.out.lt k hlt
      have h2 := HS.out.lim k hlt
      by_cases k0 : k = 0
      · subst k0
        go_wp2_with ((with_reducible refine (good_yes _ _ h1 h2 _).mono ?_); rintro e w' ⟨rfl, rfl⟩)
        go_round
        case rel => exact ⟨1, by omega, rfl⟩
        case measure => simp [intOf]; omega
      · obtain ⟨k, rfl⟩ : ∃ m, k = m + 1 := ⟨k - 1, by omega⟩
        have hz' := HC.out k _ (zcs_at L (by omega))
        have h3 := HS.out.gap k hlt
        have h4 := HS.out.lim k (by omega)
        have h5 : Lim (lo L (k + 1)) := by unfold Lim at *; omega
        go_wp2_with ((with_reducible refine (good_yes _ _ h1 h2 _).mono ?_); rintro e w' ⟨rfl, rfl⟩)
        go_round
        case rel => exact ⟨k + 2, by omega, by go_num⟩
        case measure => simp [intOf]; omega
    · go_wp2
      go_ret
      exact ⟨rfl, rfl⟩

theorem sound_yes {base : Nat} {v : Value} {L : List (Nat × Nat)} {w : World} (h : Rd w base v L.length (zcs L)) (hS : Snd L) (hL : L.length ≤ 1000) :
    Calls Try.prog 31 #[v] w fun e w' => e = .returned (.bool true) ∧ w = w' := by
  rcases h with ⟨rfl, h0, _⟩ | ⟨g, cap, rfl, _, _, hc⟩
  · exact sound_nil none 0 w
  · exact sound_some g cap L w hS hL hc

/-- append on stretches, the destination the call's own. -/
theorem app52 {w : World} {ops : Array Oper} {rest : List Oper} {o : Oper} {a : Act} {Q : Exit → Act → World → Prop} (hg : o.guard = none) (s x : Operand)
    (hop : o.op = Op.call { callee := Callee.builtin Builtin.append, args := #[s, x], argTypes := #[43, 43] }) (base : Nat) (v : Value) (n : Nat) (xs : List Value) (hs : a.eval s = v)
    (hown : w.ownsRow base 52 1 v n xs) (ad : Addr) (m c : Nat) (news : List Value) (hx : a.eval x = Value.slice (some ad) m c) (hn : news.length = m)
    (hc : ∀ (j : Nat) (u : Value), news[j]? = some u → w.cell? (ad.add j) = some u) (h1 : ∀ u ∈ news, u.oneCell' = true) (small : n + m ≤ 1000000) (hb : base ≤ w.heap.size)
    (hK : ∀ (v' : Value) (w' : World), w'.ownsRow base 52 1 v' (n + m) (xs ++ news) → w.grownBy w' v.ownBlock → (v' = Value.slice none 0 0 ↔ v = Value.slice none 0 0 ∧ m = 0) → wpList Try.prog ops Q rest (a.put o.dst v') w') :
    wpList Try.prog ops Q (o :: rest) a w := by
  obtain ⟨i0, hi, hz0, hz1, hz2⟩ := info_parts Try.info52
  exact wpList_append_own w hg s x 43 hop base 52 i0 (.complex .f64 0 0) 1 16 Try.underlying43 hi hz0 hz1 hz2 rfl (by decide) v n xs hs hown ad m c news hx (by omega) hc h1 (by unfold maxLen; omega) (by omega) hb hK

/-- Answers a list of stretches in new memory. -/
def NewZ (w : World) (L : List (Nat × Nat)) (e : Ending) (w' : World) : Prop := ∃ v', e = .returned v' ∧ w'.ownsRow w.heap.size 52 1 v' L.length (zcs L) ∧ Kp [] w w'
set_option maxRecDepth 100000 in
set_option maxHeartbeats 400000 in
theorem cloneZ_some (g cap : Nat) (L : List (Nat × Nat)) (w : World) (hL : L.length ≤ 1000) (hg : g < w.heap.size) (hc : ∀ j u, (zcs L)[j]? = some u → w.cell? ⟨g, j, none⟩ = some u) :
    Calls Try.prog 30 #[.slice (some ⟨g,0,none⟩) L.length cap] w (NewZ w L) := by
  have hnil := fun (w : World) a n c => Lib.run_eql_slice_nil (P := Try.prog) w 43 52 a n c 0 0 Try.underlying43
  have hc' : ∀ (j : Nat) (u : Value), (zcs L)[j]? = some u → (w.alloc (.cells #[] 52)).cell? ((⟨g, 0, none⟩ : Addr).add j) = some u := fun j u h => cell_row (by rw [World.cell?_alloc_past _ _ _ hg, Nat.zero_add]; exact hc j u h)
  have HC := hid hc'
  clear hc hc'
  go_enter Try.func30, Try.ntmps30
  go_wp2_with (at_builtin; refine app52 rfl (.tmp 5) (.tmp 6) rfl w.heap.size _ 0 [] rfl (World.ownsRow_made w #[] 0 (Nat.le_refl _) (by decide) rfl) ⟨g, 0, none⟩ L.length cap (zcs L) rfl (zcs_len L) HC.out (zcs_one L) (by omega) (by simp) ?_)
  intro v' w' hown hgrow _
  go_wp2
  go_ret
  refine ⟨v', rfl, by simpa using hown, ((Kp.refl _ _).alloc _).grown hgrow (by intro k hk; cases hk; simp)⟩
set_option maxRecDepth 100000 in
set_option maxHeartbeats 400000 in
theorem cloneZ_nil (w : World) : Calls Try.prog 30 #[.slice none 0 0] w (NewZ w []) := by
  have hnil := fun (w : World) a n c => Lib.run_eql_slice_nil (P := Try.prog) w 43 52 a n c 0 0 Try.underlying43
  go_enter Try.func30, Try.ntmps30
  go_wp2
  go_ret
  exact ⟨_, rfl, World.ownsRow_nil _ _ _ _, Kp.refl _ _⟩
theorem cloneZ {base : Nat} {v : Value} {L : List (Nat × Nat)} {w : World} (h : Rd w base v L.length (zcs L)) (hL : L.length ≤ 1000) : Calls Try.prog 30 #[v] w (NewZ w L) := by
  rcases h with ⟨rfl, h0, _⟩ | ⟨g, cap, rfl, _, hg, hc⟩
  · obtain rfl : L = [] := by simpa using h0
    exact cloneZ_nil w
  · exact cloneZ_some g cap L w hL hg hc
/-- Answers a list of stretches to be read, in memory that is not older than 'base'. -/
def ClipZ (w : World) (base : Nat) (L : List (Nat × Nat)) (e : Ending) (w' : World) : Prop := ∃ v', e = .returned v' ∧ Rd w base v' L.length (zcs L) ∧ w = w'
set_option maxRecDepth 100000 in
set_option maxHeartbeats 400000 in
theorem clipZ {base : Nat} {v : Value} {L : List (Nat × Nat)} {w : World} (h : w.ownsRow base 52 1 v L.length (zcs L)) : Calls Try.prog 32 #[v] w (ClipZ w base L) := by
  have hr := Rd.of_owns h
  rcases h.2 with ⟨rfl, h0⟩ | ⟨g, cap, cur, rfl, hb, hgg, hle, hmax, _⟩
  · obtain rfl : L = [] := by simpa using h0
    have HR := hid hr; clear hr h
    go_enter Try.func32, Try.ntmps32
    go_wp2
    go_ret
    exact ⟨_, rfl, .inl ⟨rfl, rfl, rfl⟩, rfl⟩
  · have HR := hid hr; clear hr h
    unfold maxLen at hmax
    clear hgg hb
    go_enter Try.func32, Try.ntmps32
    go_wp2
    go_ret
    refine ⟨_, rfl, ?_, rfl⟩
    rcases HR.out with ⟨h, _⟩ | ⟨g', cap', h, hb, hl, hc⟩
    · cases h
    · cases h
      exact .inr ⟨g, _, rfl, hb, hl, hc⟩
end Go.Proofs.Ytnffhlbkigipmaa
