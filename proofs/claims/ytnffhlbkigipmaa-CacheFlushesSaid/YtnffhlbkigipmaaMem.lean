/- DERIVED. What a call may have changed: 'Kp S w w'': of the blocks that were there in w those outside S hold what they held. Rows that are read. -/
import Derived.WalkKit
import Derived.WalkSpells
import Derived.WalkLawsBesides
import Derived.Laws.AppendOwnNone
namespace Go.Proofs.Ytnffhlbkigipmaa
open Go.RowKit

theorem hid {p : Prop} (h : p) : Hid p := h

structure Kp (S : List Nat) (w w' : World) : Prop where
  os : w'.os = w.os
  tape : w'.tape = w.tape
  output : w'.output = w.output
  size : w.heap.size ≤ w'.heap.size
  block : ∀ k, k < w.heap.size → k ∉ S → w'.heap[k]? = w.heap[k]?

theorem Kp.refl (S : List Nat) (w : World) : Kp S w w := ⟨rfl, rfl, rfl, Nat.le_refl _, fun _ _ _ => rfl⟩

/-- Two steps: the second may have changed what is in S, or what the first has made. -/
theorem Kp.step {S S' : List Nat} {a b c : World} (h : Kp S a b) (k : Kp S' b c) (hs : ∀ n ∈ S', n ∈ S ∨ a.heap.size ≤ n) : Kp S a c :=
  ⟨k.os.trans h.os, k.tape.trans h.tape, k.output.trans h.output, Nat.le_trans h.size k.size, fun i hi hn =>
    (k.block i (Nat.lt_of_lt_of_le hi h.size) (fun hm => by rcases hs i hm with h1 | h1; exact hn h1; omega)).trans (h.block i hi hn)⟩

theorem Kp.trans {S : List Nat} {a b c : World} (h : Kp S a b) (k : Kp S b c) : Kp S a c := h.step k fun _ hn => .inl hn
theorem Kp.mono {S S' : List Nat} {a b : World} (h : Kp S a b) (hs : ∀ n ∈ S, n ∈ S' ∨ a.heap.size ≤ n) : Kp S' a b :=
  (Kp.refl S' a).step h hs
theorem Kp.drew {S : List Nat} {a w : World} (h : Kp S a w) : Kp S a w.drew := ⟨h.os, h.tape, h.output, h.size, h.block⟩
theorem Kp.drewN {S : List Nat} {a w : World} (h : Kp S a w) (n : Nat) : Kp S a (w.drewN n) := ⟨h.os, h.tape, h.output, h.size, h.block⟩
theorem Kp.alloc {S : List Nat} {a w : World} (h : Kp S a w) (o : Obj) : Kp S a (w.alloc o) :=
  h.trans ⟨rfl, rfl, rfl, by simp, fun k hk _ => Below.heap_alloc _ _ _ hk⟩
theorem Kp.setCell {S : List Nat} {a w : World} (h : Kp S a w) {p : Addr} (hp : p.block ∈ S ∨ a.heap.size ≤ p.block) (u : Value) : Kp S a (w.setCell p u) :=
  h.step (S' := [p.block]) ⟨rfl, rfl, rfl, by simp [World.setCell], fun k _ hn => Below.heap_setCell _ _ _ _ (by simpa using hn)⟩ (by simpa using hp)
theorem Kp.grown {S : List Nat} {a w w' : World} {row : Option Nat} (h : Kp S a w) (hg : w.grownBy w' row) (hr : ∀ k, row = some k → k ∈ S ∨ a.heap.size ≤ k) : Kp S a w' := by
  refine h.step (S' := row.toList) ⟨hg.os, hg.tape, hg.output, hg.size, fun k hk hn => hg.block k hk (fun e => hn (by simp [← e]))⟩ ?_
  intro n hn
  exact hr n (by simpa using hn)
theorem Kp.heap {S : List Nat} {w w' : World} (h : Kp S w w') {k : Nat} (hk : k ∉ S) {o : Obj} (ho : w.heap[k]? = some o) : w'.heap[k]? = some o :=
  (h.block k (Array.getElem?_eq_some_iff.1 ho).1 hk).trans ho
theorem Kp.cell {S : List Nat} {w w' : World} (h : Kp S w w') {p : Addr} (hk : p.block ∉ S) {u : Value} (hu : w.cell? p = some u) : w'.cell? p = some u :=
  (World.cell?_of_block (w := w) (h.block p.block (World.block_lt_of_cell? w p hu) hk)).trans hu
theorem Kp.below {S : List Nat} {w w' : World} (h : Kp S w w') (B : Nat) (hB : B ≤ w.heap.size) (hs : ∀ n ∈ S, B ≤ n) : Below B w w' :=
  ⟨h.os, h.tape, h.output, h.size, fun k hk => h.block k (by omega) (fun hm => by have := hs k hm; omega)⟩
theorem Kp.of_grown {w w' : World} (h : w.grownBy w' none) : Kp [] w w' := (Kp.refl _ _).grown h (by simp)

theorem _root_.Go.World.ownsRow.kp {S : List Nat} {w w' : World} {base : Nat} {e : TypeId} {size : Nat} {v : Value} {n : Nat} {xs : List Value}
    (h : w.ownsRow base e size v n xs) (k : Kp S w w') (hs : ∀ g, v.ownBlock = some g → g ∉ S) : w'.ownsRow base e size v n xs := by
  refine ⟨h.1, ?_⟩
  rcases h.2 with hn | ⟨g, cap, cur, rfl, hb, hgg, rest⟩
  · exact .inl hn
  · exact .inr ⟨g, cap, cur, rfl, hb, k.heap (hs g rfl) hgg, rest⟩
theorem _root_.Go.World.ownsRow.down {w : World} {base base' : Nat} {e : TypeId} {size : Nat} {v : Value} {n : Nat} {xs : List Value}
    (h : w.ownsRow base e size v n xs) (hb : base' ≤ base) : w.ownsRow base' e size v n xs := by
  refine ⟨h.1, ?_⟩
  rcases h.2 with hn | ⟨g, cap, cur, rfl, hb', r⟩
  · exact .inl hn
  · exact .inr ⟨g, cap, cur, rfl, by omega, r⟩

/-- A slice whose elements' cells are xs, to be read. -/
def Rd (w : World) (base : Nat) (v : Value) (n : Nat) (xs : List Value) : Prop :=
  (v = .slice none 0 0 ∧ n = 0 ∧ xs = []) ∨
  ∃ g cap, v = .slice (some ⟨g, 0, none⟩) n cap ∧ base ≤ g ∧ g < w.heap.size ∧ ∀ j u, xs[j]? = some u → w.cell? ⟨g, j, none⟩ = some u

theorem Rd.of_owns {w : World} {base : Nat} {e : TypeId} {size : Nat} {v : Value} {n : Nat} {xs : List Value} (h : w.ownsRow base e size v n xs) : Rd w base v n xs := by
  rcases h.2 with ⟨rfl, rfl⟩ | ⟨g, cap, cur, rfl, hb, hgg, r⟩
  · exact .inl ⟨rfl, rfl, by have := h.1; simpa using this⟩
  · refine .inr ⟨g, cap, rfl, hb, (Array.getElem?_eq_some_iff.1 hgg).1, fun j u hu => ?_⟩
    have := h.cells (g := g) rfl j u hu
    rwa [Addr.add_lit, Nat.zero_add] at this
theorem Rd.kp {S : List Nat} {w w' : World} {base : Nat} {v : Value} {n : Nat} {xs : List Value} (h : Rd w base v n xs) (k : Kp S w w') (hs : ∀ g, v.ownBlock = some g → g ∉ S) : Rd w' base v n xs := by
  rcases h with h | ⟨g, cap, rfl, hb, hl, hc⟩
  · exact .inl h
  · exact .inr ⟨g, cap, rfl, hb, Nat.lt_of_lt_of_le hl k.size, fun j u hu => k.cell (p := ⟨g, j, none⟩) (hs g rfl) (hc j u hu)⟩
theorem Rd.down {w : World} {base base' : Nat} {v : Value} {n : Nat} {xs : List Value} (h : Rd w base v n xs) (hb : base' ≤ base) : Rd w base' v n xs := by
  rcases h with h | ⟨g, cap, rfl, hb', hl, hc⟩
  · exact .inl h
  · exact .inr ⟨g, cap, rfl, by omega, hl, hc⟩
theorem Rd.lt {w : World} {base : Nat} {v : Value} {n : Nat} {xs : List Value} (h : Rd w base v n xs) : ∀ g, v.ownBlock = some g → base ≤ g ∧ g < w.heap.size := by
  intro g hg
  rcases h with ⟨rfl, _⟩ | ⟨g', cap, rfl, hb', hl, hc⟩
  · cases hg
  · simp only [Value.ownBlock, Option.some.injEq] at hg; omega
theorem cell_row {w : World} {g o j : Nat} {u : Value} (h : w.cell? ⟨g, o + j, none⟩ = some u) : w.cell? ((⟨g, o, none⟩ : Addr).add j) = some u := by
  rw [Addr.add_lit]; exact h
end Go.Proofs.Ytnffhlbkigipmaa
