/-
  A state's cells, and what lies in memory of it: rows of cells within a stretch of blocks.
  Conditions: as each theorem states them.
-/
import Derived.Test.YtepdfkgadigafaaGreatDoorBase
namespace Go.Proofs.YtepdfkgadigafaaGreatDoor
open Go.RowKit
set_option linter.unusedVariables false
set_option linter.unusedSimpArgs false
def BytesAt (w : World) (ba : Option Addr) (xs : List UInt8) : Prop := 0 < xs.length → ∃ p o, ba = some ⟨p, o, none⟩ ∧ p < w.heap.size ∧ ByteRow w p o xs
theorem BytesAt.below {w w' : World} {ba : Option Addr} {xs : List UInt8} (h : BytesAt w ba xs) (hb : Below w.heap.size w w') : BytesAt w' ba xs := fun h0 => by
  obtain ⟨p, o, e, hp, hr⟩ := h h0
  exact ⟨p, o, e, Nat.lt_of_lt_of_le hp hb.size, fun i hi => (hb.cell (p := ⟨p, o + i, none⟩) hp).trans (hr i hi)⟩
structure Sl3 where
  a : Option Addr
  n : Nat
  c : Nat
abbrev Sl3.v (s : Sl3) : Value := .slice s.a s.n s.c
/-- a state's cells -/
structure StC where
  pat : Sl3
  hold : Sl3
  nl : Bool
  line : Int
  subst : Bool
  last : Int
  next : Int
  opn : Int
  cur : Int
  missing : Int
  rest : Sl3
  out : Sl3
  short : Bool
  place : Sl3
  pshort : Bool
  phase : Int
  pc : Int
  exit : Int
  stop : Int
  err : Int
  silent : Bool
  quit : Bool
  again : Bool
  active : Sl3
  waits : Sl3
  files : Sl3
  lacks : Sl3
def StC.cells (s : StC) : List Value := [s.pat.v, s.hold.v, .bool s.nl, .int .i64 s.line, .bool s.subst, .int .i64 s.last, .int .i64 s.next, .int .i64 s.opn, .int .i64 s.cur, .int .i64 s.missing, s.rest.v, s.out.v, .bool s.short, s.place.v, .bool s.pshort, .int .i64 s.phase, .int .i64 s.pc, .int .i64 s.exit, .int .i64 s.stop, .int .i64 s.err,
  .bool s.silent, .bool s.quit, .bool s.again, s.active.v, s.waits.v, s.files.v, s.lacks.v]
/-- the blocks from lo to hi are as they were -/
def KeepI (lo hi : Nat) (W W' : World) : Prop := W.heap.size ≤ W'.heap.size ∧ ∀ k, lo ≤ k → k < hi → W'.heap[k]? = W.heap[k]?
theorem KeepI.refl (lo hi : Nat) (W : World) : KeepI lo hi W W := ⟨Nat.le_refl _, fun _ _ _ => rfl⟩
theorem KeepI.trans {lo hi : Nat} {a b c : World} (h : KeepI lo hi a b) (k : KeepI lo hi b c) : KeepI lo hi a c := ⟨Nat.le_trans h.1 k.1, fun i h1 h2 => (k.2 i h1 h2).trans (h.2 i h1 h2)⟩
theorem KeepI.sub {lo hi lo' hi' : Nat} {a b : World} (h : KeepI lo hi a b) (h1 : lo ≤ lo') (h2 : hi' ≤ hi) : KeepI lo' hi' a b := ⟨h.1, fun k hk hk2 => h.2 k (by omega) (by omega)⟩
theorem KeepI.only {K : Nat → Prop} {lo hi : Nat} {a b : World} (ho : Only K a b) (hh : hi ≤ a.heap.size) (hK : ∀ k, lo ≤ k → k < hi → ¬ K k) : KeepI lo hi a b := ⟨ho.size, fun k h1 h2 => ho.block k (by omega) (hK k h1 h2)⟩
theorem KeepI.below {lo hi : Nat} {a b : World} (hb : Below a.heap.size a b) (hh : hi ≤ a.heap.size) : KeepI lo hi a b := ⟨hb.size, fun k h1 h2 => hb.block k (by omega)⟩
/-- a row of cells, in a block from lo to hi; a row that was made (lo above 0) may be written -/
def CellsI (lo hi : Nat) (W : World) (a : Option Addr) (cs : List Value) : Prop := 0 < cs.length → ∃ p o, a = some ⟨p, o, none⟩ ∧ lo ≤ p ∧ p < hi ∧ ∀ i (h : i < cs.length), W.cell? ⟨p, o + i, none⟩ = some cs[i] ∧ (0 < lo → W.frozen? ⟨p, o + i, none⟩ = false)
theorem CellsI.keep {lo hi : Nat} {W W' : World} {a : Option Addr} {cs : List Value} (h : CellsI lo hi W a cs) (hk : KeepI lo hi W W') : CellsI lo hi W' a cs := fun h0 => by
  obtain ⟨p, o, e, h1, h2, h3⟩ := h h0
  exact ⟨p, o, e, h1, h2, fun i hi => ⟨(World.cell?_of_block (a := ⟨p, o + i, none⟩) (hk.2 p h1 h2)).trans (h3 i hi).1, fun h0 => (World.frozen?_of_block (a := ⟨p, o + i, none⟩) (hk.2 p h1 h2)).trans ((h3 i hi).2 h0)⟩⟩
theorem CellsI.wide {lo hi lo' hi' : Nat} {W : World} {a : Option Addr} {cs : List Value} (h : CellsI lo hi W a cs) (h1 : lo' ≤ lo) (h2 : hi ≤ hi') : CellsI lo' hi' W a cs := fun h0 => by
  obtain ⟨p, o, e, k1, k2, k3⟩ := h h0
  exact ⟨p, o, e, by omega, by omega, fun i hi => ⟨(k3 i hi).1, fun h0 => (k3 i hi).2 (by omega)⟩⟩
/-- a text -/
def TxI (lo hi : Nat) (W : World) (s : Sl3) (t : List UInt8) : Prop := s.n = t.length ∧ t.length ≤ s.c ∧ t.length ≤ 140737488351232 ∧ CellsI lo hi W s.a (Lib.byteCells t)
theorem TxI.keep {lo hi : Nat} {W W' : World} {s : Sl3} {t : List UInt8} (h : TxI lo hi W s t) (hk : KeepI lo hi W W') : TxI lo hi W' s t := ⟨h.1, h.2.1, h.2.2.1, h.2.2.2.keep hk⟩
theorem TxI.wide {lo hi lo' hi' : Nat} {W : World} {s : Sl3} {t : List UInt8} (h : TxI lo hi W s t) (h1 : lo' ≤ lo) (h2 : hi ≤ hi') : TxI lo' hi' W s t := ⟨h.1, h.2.1, h.2.2.1, h.2.2.2.wide h1 h2⟩
theorem bc_len (t : List UInt8) : (Lib.byteCells t).length = t.length := by simp [Lib.byteCells]
theorem TxI.at {lo hi : Nat} {W : World} {s : Sl3} {t : List UInt8} (h : TxI lo hi W s t) (hh : hi ≤ W.heap.size) : BytesAt W s.a t := fun h0 => by
  obtain ⟨p, o, e, h1, h2, h3⟩ := h.2.2.2 (by rw [bc_len]; exact h0)
  refine ⟨p, o, e, by omega, fun i hi => ?_⟩
  have := (h3 i (by rw [bc_len]; exact hi)).1
  rw [this]
  simp [Lib.byteCells]
/-- truths -/
def BlI (lo hi : Nat) (W : World) (s : Sl3) (l : List Bool) : Prop := s.n = l.length ∧ l.length ≤ s.c ∧ l.length ≤ 140737488351232 ∧ CellsI lo hi W s.a (l.map .bool)
theorem BlI.keep {lo hi : Nat} {W W' : World} {s : Sl3} {t : List Bool} (h : BlI lo hi W s t) (hk : KeepI lo hi W W') : BlI lo hi W' s t := ⟨h.1, h.2.1, h.2.2.1, h.2.2.2.keep hk⟩
theorem BlI.wide {lo hi lo' hi' : Nat} {W : World} {s : Sl3} {t : List Bool} (h : BlI lo hi W s t) (h1 : lo' ≤ lo) (h2 : hi ≤ hi') : BlI lo' hi' W s t := ⟨h.1, h.2.1, h.2.2.1, h.2.2.2.wide h1 h2⟩
/-- a row of pairs: a first cell, and a text -/
def pairCells (l : List (Value × Sl3)) : List Value := (l.map fun p => [p.1, p.2.v]).flatten
theorem pairs_len (l : List (Value × Sl3)) : (pairCells l).length = l.length * 2 := by
  induction l with
  | nil => rfl
  | cons x l ih => unfold pairCells at *; simp only [List.map_cons, List.flatten_cons, List.length_append, List.length_cons, List.length_nil, ih]; omega
theorem pairs_get : ∀ (l : List (Value × Sl3)) (i : Nat) (hi : i < l.length), (pairCells l)[i * 2]? = some (l[i]).1 ∧ (pairCells l)[i * 2 + 1]? = some (l[i]).2.v
  | [], i, hi => by simp at hi
  | x :: l, 0, _ => by simp [pairCells]
  | x :: l, i + 1, hi => by
    have h := pairs_get l i (by simpa using hi)
    have e : pairCells (x :: l) = x.1 :: x.2.v :: pairCells l := by simp [pairCells]
    rw [e, show (i + 1) * 2 = i * 2 + 1 + 1 by omega, List.getElem?_cons_succ, List.getElem?_cons_succ, List.getElem?_cons_succ, List.getElem?_cons_succ]
    simpa using h
/-- pairs in memory: the row, and each text -/
def PrI {α : Type} (f : α → Value) (lo hi : Nat) (W : World) (s : Sl3) (l : List (α × List UInt8)) : Prop := s.n = l.length ∧ l.length ≤ s.c ∧ l.length ≤ 140737488351232 ∧ ∃ ss : List Sl3, ss.length = l.length ∧ CellsI lo hi W s.a (pairCells ((l.map fun p => f p.1).zip ss)) ∧ ∀ i (h : i < l.length) (h' : i < ss.length), TxI lo hi W ss[i] l[i].2
theorem PrI.keep {α : Type} {f : α → Value} {lo hi : Nat} {W W' : World} {s : Sl3} {l : List (α × List UInt8)} (h : PrI f lo hi W s l) (hk : KeepI lo hi W W') : PrI f lo hi W' s l := by
  obtain ⟨h1, h2, h3, ss, h4, h5, h6⟩ := h
  exact ⟨h1, h2, h3, ss, h4, h5.keep hk, fun i a b => (h6 i a b).keep hk⟩
theorem PrI.wide {α : Type} {f : α → Value} {lo hi lo' hi' : Nat} {W : World} {s : Sl3} {l : List (α × List UInt8)} (h : PrI f lo hi W s l) (k1 : lo' ≤ lo) (k2 : hi ≤ hi') : PrI f lo' hi' W s l := by
  obtain ⟨h1, h2, h3, ss, h4, h5, h6⟩ := h
  exact ⟨h1, h2, h3, ss, h4, h5.wide k1 k2, fun i a b => (h6 i a b).wide k1 k2⟩
abbrev strV (x : List UInt8) : Value := .string ⟨x.toArray⟩
def kindV (k : Int) : Value := .int .i64 k
/-- what a state says: numbers and truths -/
structure Sc where
  nl : Bool
  line : Int
  subst : Bool
  last : Int
  next : Int
  opn : Int
  cur : Int
  missing : Int
  short : Bool
  pshort : Bool
  phase : Int
  pc : Int
  exit : Int
  stop : Int
  err : Int
  silent : Bool
  quit : Bool
  again : Bool
def StC.sc (s : StC) : Sc := ⟨s.nl, s.line, s.subst, s.last, s.next, s.opn, s.cur, s.missing, s.short, s.pshort, s.phase, s.pc, s.exit, s.stop, s.err, s.silent, s.quit, s.again⟩
/-- what a state says -/
structure StV where
  sc : Sc
  pat : List UInt8
  hold : List UInt8
  rest : List UInt8
  out : List UInt8
  place : List UInt8
  active : List Bool
  lacks : List Bool
  waits : List (Int × List UInt8)
  files : List (List UInt8 × List UInt8)
/-- a state in memory, in the blocks from lo to hi -/
structure SIn (lo hi : Nat) (s : StC) (V : StV) (W : World) : Prop where
  top : hi ≤ W.heap.size
  sc : s.sc = V.sc
  pat : TxI lo hi W s.pat V.pat
  hold : TxI lo hi W s.hold V.hold
  rest : TxI lo hi W s.rest V.rest
  out : TxI lo hi W s.out V.out
  place : TxI lo hi W s.place V.place
  active : BlI lo hi W s.active V.active
  lacks : BlI lo hi W s.lacks V.lacks
  waits : PrI kindV lo hi W s.waits V.waits
  files : PrI strV lo hi W s.files V.files
theorem SIn.keep {lo hi : Nat} {s : StC} {V : StV} {W W' : World} (h : SIn lo hi s V W) (hk : KeepI lo hi W W') : SIn lo hi s V W' :=
  ⟨Nat.le_trans h.top hk.1, h.sc, h.pat.keep hk, h.hold.keep hk, h.rest.keep hk, h.out.keep hk, h.place.keep hk, h.active.keep hk, h.lacks.keep hk, h.waits.keep hk, h.files.keep hk⟩
theorem SIn.below {lo hi : Nat} {s : StC} {V : StV} {W W' : World} (h : SIn lo hi s V W) (hb : Below W.heap.size W W') : SIn lo hi s V W' := h.keep (KeepI.below hb h.top)
theorem SIn.wide {lo hi lo' hi' : Nat} {s : StC} {V : StV} {W : World} (h : SIn lo hi s V W) (h1 : lo' ≤ lo) (h2 : hi ≤ hi') (h3 : hi' ≤ W.heap.size) : SIn lo' hi' s V W :=
  ⟨h3, h.sc, h.pat.wide h1 h2, h.hold.wide h1 h2, h.rest.wide h1 h2, h.out.wide h1 h2, h.place.wide h1 h2, h.active.wide h1 h2, h.lacks.wide h1 h2, h.waits.wide h1 h2, h.files.wide h1 h2⟩
/-- the zero state -/
def zeroC : StC := ⟨⟨none, 0, 0⟩, ⟨none, 0, 0⟩, false, 0, false, 0, 0, 0, 0, 0, ⟨none, 0, 0⟩, ⟨none, 0, 0⟩, false, ⟨none, 0, 0⟩, false, 0, 0, 0, 0, 0, false, false, false, ⟨none, 0, 0⟩, ⟨none, 0, 0⟩, ⟨none, 0, 0⟩, ⟨none, 0, 0⟩⟩
def zeroV : StV := ⟨zeroC.sc, [], [], [], [], [], [], [], [], []⟩
theorem zero_sin (lo hi : Nat) (W : World) (h : hi ≤ W.heap.size) : SIn lo hi zeroC zeroV W :=
  ⟨h, rfl, ⟨rfl, Nat.le_refl _, by simp [zeroV], fun h => by simp [zeroV, Lib.byteCells] at h⟩, ⟨rfl, Nat.le_refl _, by simp [zeroV], fun h => by simp [zeroV, Lib.byteCells] at h⟩, ⟨rfl, Nat.le_refl _, by simp [zeroV], fun h => by simp [zeroV, Lib.byteCells] at h⟩, ⟨rfl, Nat.le_refl _, by simp [zeroV], fun h => by simp [zeroV, Lib.byteCells] at h⟩, ⟨rfl, Nat.le_refl _, by simp [zeroV], fun h => by simp [zeroV, Lib.byteCells] at h⟩,
    ⟨rfl, Nat.le_refl _, by simp [zeroV], fun h => by simp [zeroV] at h⟩, ⟨rfl, Nat.le_refl _, by simp [zeroV], fun h => by simp [zeroV] at h⟩,
    ⟨rfl, Nat.le_refl _, by simp [zeroV], [], rfl, (fun h => by simp [zeroV, pairCells] at h), (fun i h => by simp [zeroV] at h)⟩, ⟨rfl, Nat.le_refl _, by simp [zeroV], [], rfl, (fun h => by simp [zeroV, pairCells] at h), (fun i h => by simp [zeroV] at h)⟩⟩
end Go.Proofs.YtepdfkgadigafaaGreatDoor
