/- DERIVED. What a cache holds, in memory. -/
import Derived.Test.YtnffhlbkigipmaaF
import Derived.Lib.AppendZeros
namespace Go.Proofs.Ytnffhlbkigipmaa
open Go.RowKit Flo

/-- Bytes as cells. -/
def bts (l : List Int) : List Value := l.map (Value.int .u8)
theorem bts_len (l : List Int) : (bts l).length = l.length := by simp [bts]
theorem bts_one (l : List Int) : ∀ u ∈ bts l, u.oneCell' = true := by
  intro u hu; simp only [bts, List.mem_map] at hu; obtain ⟨p, _, rfl⟩ := hu; rfl
theorem bts_append (a b : List Int) : bts a ++ bts b = bts (a ++ b) := by simp [bts]
theorem bts_at (l : List Int) {i : Nat} (h : i < l.length) : (bts l)[i]? = some (.int .u8 (l.getD i 0)) := by simp [bts, List.getD, h]

/-- What a cache holds. -/
structure CS where
  mode : Int
  since : Int
  size : Nat
  dat : List Int
  kn : List (Nat × Nat)
  dirty : List (Int × List Int)
  lost : Int

/-- A piece: where, the slice of its bytes, its bytes. -/
structure Pc where
  at_ : Int
  v : Value
  data : List Int
/-- Pieces as cells. -/
def pcs (ps : List Pc) : List Value := ps.flatMap fun p => [.int .i64 p.at_, p.v]
theorem pcs_len (ps : List Pc) : (pcs ps).length = ps.length * 2 := by
  induction ps with
  | nil => rfl
  | cons p ps ih => simp [pcs] at *; omega

def cblk (st : CS) (vd vk vp : Value) : Array Value := #[.int .i64 st.mode, .int .i64 st.since, .int .i64 st.size, vd, vk, vp, .int .i64 st.lost]

structure CRep (w : World) (B c : Nat) (st : CS) (vd vk vp : Value) (ps : List Pc) : Prop where
  hB : B ≤ c
  blk : w.heap[c]? = some (.cells (cblk st vd vk vp) 46 (0, 0))
  dat : w.ownsRow B 5 1 vd st.dat.length (bts st.dat)
  kn : Rd w B vk st.kn.length (zcs st.kn)
  row : w.ownsRow B 39 2 vp ps.length (pcs ps)
  dy : st.dirty = ps.map fun p => (p.at_, p.data)
  pl : ∀ p ∈ ps, Rd w B p.v p.data.length (bts p.data)
  cd : vd.ownBlock ≠ some c
  ck : vk.ownBlock ≠ some c
  cp : vp.ownBlock ≠ some c
  cq : ∀ p ∈ ps, p.v.ownBlock ≠ some c
  dk : ∀ k, vd.ownBlock = some k → vk.ownBlock ≠ some k ∧ vp.ownBlock ≠ some k ∧ ∀ p ∈ ps, p.v.ownBlock ≠ some k
  pk : ∀ k, vp.ownBlock = some k → vk.ownBlock ≠ some k ∧ ∀ p ∈ ps, p.v.ownBlock ≠ some k

section
variable {w : World} {B c : Nat} {st : CS} {vd vk vp : Value} {ps : List Pc}
theorem CRep.lt (h : CRep w B c st vd vk vp ps) : c < w.heap.size := (Array.getElem?_eq_some_iff.1 h.blk).1
theorem CRep.cellAt (h : CRep w B c st vd vk vp ps) (i : Nat) : w.cell? ⟨c, i, none⟩ = (cblk st vd vk vp)[i]? := by
  simp [World.cell?, h.blk]
theorem CRep.c0 (h : CRep w B c st vd vk vp ps) : w.cell? ⟨c, 0, none⟩ = some (.int .i64 st.mode) := h.cellAt 0
theorem CRep.c1 (h : CRep w B c st vd vk vp ps) : w.cell? ⟨c, 1, none⟩ = some (.int .i64 st.since) := h.cellAt 1
theorem CRep.c2 (h : CRep w B c st vd vk vp ps) : w.cell? ⟨c, 2, none⟩ = some (.int .i64 st.size) := h.cellAt 2
theorem CRep.c3 (h : CRep w B c st vd vk vp ps) : w.cell? ⟨c, 3, none⟩ = some vd := h.cellAt 3
theorem CRep.c4 (h : CRep w B c st vd vk vp ps) : w.cell? ⟨c, 4, none⟩ = some vk := h.cellAt 4
theorem CRep.c5 (h : CRep w B c st vd vk vp ps) : w.cell? ⟨c, 5, none⟩ = some vp := h.cellAt 5
theorem CRep.c6 (h : CRep w B c st vd vk vp ps) : w.cell? ⟨c, 6, none⟩ = some (.int .i64 st.lost) := h.cellAt 6
theorem CRep.fr (h : CRep w B c st vd vk vp ps) (i : Nat) : w.frozen? ⟨c, i, none⟩ = false := by
  simp [World.frozen?, h.blk]
/-- The cache is as it was where none of its blocks has changed. -/
theorem CRep.kp {S : List Nat} {w' : World} (h : CRep w B c st vd vk vp ps) (k : Kp S w w') (hc : c ∉ S) (hd : ∀ g, vd.ownBlock = some g → g ∉ S) (hk : ∀ g, vk.ownBlock = some g → g ∉ S)
    (hp : ∀ g, vp.ownBlock = some g → g ∉ S) (hq : ∀ p ∈ ps, ∀ g, p.v.ownBlock = some g → g ∉ S) : CRep w' B c st vd vk vp ps :=
  { h with
    blk := k.heap hc h.blk
    dat := h.dat.kp k hd
    kn := h.kn.kp k hk
    row := h.row.kp k hp
    pl := fun p hp' => (h.pl p hp').kp k (hq p hp') }
theorem CRep.kp0 {w' : World} (h : CRep w B c st vd vk vp ps) (k : Kp [] w w') : CRep w' B c st vd vk vp ps :=
  h.kp k (by simp) (by simp) (by simp) (by simp) (by simp)
end

theorem heap_setCell_same {w : World} {c i : Nat} {arr : Array Value} {t : TypeId} {fr : Nat × Nat} (h : w.heap[c]? = some (.cells arr t fr)) (u : Value) :
    (w.setCell ⟨c, i, none⟩ u).heap[c]? = some (.cells (arr.setIfInBounds i u) t fr) := by
  simp [World.setCell, Array.getElem?_modify, h]

/-- A cache whose own block, and that alone, is written. -/
theorem CRep.set {w w' : World} {B c : Nat} {st st' : CS} {vd vk vk' vp : Value} {ps : List Pc} (h : CRep w B c st vd vk vp ps) (k : Kp [c] w w')
    (hblk : w'.heap[c]? = some (.cells (cblk st' vd vk' vp) 46 (0, 0))) (hd : st'.dat = st.dat) (hp : st'.dirty = st.dirty) (hk : Rd w' B vk' st'.kn.length (zcs st'.kn))
    (hkc : vk'.ownBlock ≠ some c) (hkd : ∀ g, vk'.ownBlock = some g → vd.ownBlock ≠ some g ∧ vp.ownBlock ≠ some g) : CRep w' B c st' vd vk' vp ps :=
  { hB := h.hB
    blk := hblk
    dat := by rw [hd]; exact h.dat.kp k (fun g hg => by have := h.cd; simp; intro e; subst e; exact this hg)
    kn := hk
    row := h.row.kp k (fun g hg => by have := h.cp; simp; intro e; subst e; exact this hg)
    dy := hp.trans h.dy
    pl := fun p hp' => (h.pl p hp').kp k (fun g hg => by have := h.cq p hp'; simp; intro e; subst e; exact this hg)
    cd := h.cd
    ck := hkc
    cp := h.cp
    cq := h.cq
    dk := fun g hg => ⟨fun e => (hkd g e).1 hg, (h.dk g hg).2⟩
    pk := fun g hg => ⟨fun e => (hkd g e).2 hg, (h.pk g hg).2⟩ }
end Go.Proofs.Ytnffhlbkigipmaa
