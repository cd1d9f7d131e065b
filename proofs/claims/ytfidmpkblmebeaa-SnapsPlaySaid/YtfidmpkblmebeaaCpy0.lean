/-
  What lies in memory while a state is copied field by field: the box, the result's place, and the fields, old or new; of chapter 20. (Printed by gen_cpy0.py.)
  Conditions: as each theorem states them.
-/
import Derived.Test.YtfidmpkblmebeaaRowP
namespace Go.Proofs.Ytfidmpkblmebeaa
open Go.RowKit
set_option linter.unusedVariables false
set_option linter.unusedSimpArgs false
/-- a field: new (from b on, below T), old (from lo to hi), or in progress -/
def TxD (d : Bool) (b T lo hi : Nat) (X : World) (c : Sl3) (t : List UInt8) : Prop := match d with | true => TxI b T X c t | false => TxI lo hi X c t
def BlD (d : Bool) (b T lo hi : Nat) (X : World) (c : Sl3) (t : List Bool) : Prop := match d with | true => BlI b T X c t | false => BlI lo hi X c t
def PrD {α : Type} (f : α → Value) (d : Option Bool) (b T lo hi : Nat) (X : World) (c : Sl3) (t : List (α × List UInt8)) : Prop := match d with | some true => PrI f b T X c t | some false => PrI f lo hi X c t | none => True
theorem TxD.keep {d : Bool} {b T T' lo hi : Nat} {X Y : World} {c : Sl3} {t : List UInt8} (h : TxD d b T lo hi X c t) (k1 : KeepI b T X Y) (k2 : KeepI lo hi X Y) (hT : T ≤ T') : TxD d b T' lo hi Y c t := by
  cases d
  · exact TxI.keep h k2
  · exact (TxI.keep h k1).wide (Nat.le_refl _) hT
theorem BlD.keep {d : Bool} {b T T' lo hi : Nat} {X Y : World} {c : Sl3} {t : List Bool} (h : BlD d b T lo hi X c t) (k1 : KeepI b T X Y) (k2 : KeepI lo hi X Y) (hT : T ≤ T') : BlD d b T' lo hi Y c t := by
  cases d
  · exact BlI.keep h k2
  · exact (BlI.keep h k1).wide (Nat.le_refl _) hT
theorem PrD.keep {α : Type} {f : α → Value} {d : Option Bool} {b T T' lo hi : Nat} {X Y : World} {c : Sl3} {t : List (α × List UInt8)} (h : PrD f d b T lo hi X c t) (k1 : KeepI b T X Y) (k2 : KeepI lo hi X Y) (hT : T ≤ T') : PrD f d b T' lo hi Y c t := by
  rcases d with _ | _ | _
  · trivial
  · exact PrI.keep h k2
  · exact (PrI.keep h k1).wide (Nat.le_refl _) hT

structure CF (w : World) (lo hi : Nat) (V : StV) (dpat dhold drest dout dplace dactive dlacks : Bool) (dwaits dfiles : Option Bool) (T : Nat) (cur : StC) (X : World) : Prop where
  b0 : Blk X w.heap.size 43 cur.cells
  b1 : Blk X (w.heap.size + 1) 43 zeroC.cells
  o : Below w.heap.size w X
  hw : hi ≤ w.heap.size
  bT : w.heap.size + 2 ≤ T
  top : T ≤ X.heap.size
  sc : cur.sc = V.sc
  pat : TxD dpat (w.heap.size + 2) T lo hi X cur.pat V.pat
  hold : TxD dhold (w.heap.size + 2) T lo hi X cur.hold V.hold
  rest : TxD drest (w.heap.size + 2) T lo hi X cur.rest V.rest
  out : TxD dout (w.heap.size + 2) T lo hi X cur.out V.out
  place : TxD dplace (w.heap.size + 2) T lo hi X cur.place V.place
  active : BlD dactive (w.heap.size + 2) T lo hi X cur.active V.active
  lacks : BlD dlacks (w.heap.size + 2) T lo hi X cur.lacks V.lacks
  waits : PrD kindV dwaits (w.heap.size + 2) T lo hi X cur.waits V.waits
  files : PrD strV dfiles (w.heap.size + 2) T lo hi X cur.files V.files

section
variable {w : World} {lo hi : Nat} {V : StV} {dpat dhold drest dout dplace dactive dlacks : Bool} {dwaits dfiles : Option Bool} {T : Nat} {cur : StC} {X : World}
theorem CF.below {Y : World} (h : CF w lo hi V dpat dhold drest dout dplace dactive dlacks dwaits dfiles T cur X) (hb : Below X.heap.size X Y) : CF w lo hi V dpat dhold drest dout dplace dactive dlacks dwaits dfiles T cur Y := by
  have k1 : KeepI (w.heap.size + 2) T X Y := KeepI.below hb h.top
  have k2 : KeepI lo hi X Y := KeepI.below hb (Nat.le_trans h.hw h.o.size)
  have hT := Nat.le_refl T
  exact ⟨h.b0.below hb, h.b1.below hb, h.o.trans (hb.mono h.o.size), h.hw, h.bT, Nat.le_trans h.top hb.size, h.sc, h.pat.keep k1 k2 hT, h.hold.keep k1 k2 hT, h.rest.keep k1 k2 hT, h.out.keep k1 k2 hT, h.place.keep k1 k2 hT, h.active.keep k1 k2 hT, h.lacks.keep k1 k2 hT, h.waits.keep k1 k2 hT, h.files.keep k1 k2 hT⟩
theorem CF.raise (h : CF w lo hi V dpat dhold drest dout dplace dactive dlacks dwaits dfiles T cur X) : CF w lo hi V dpat dhold drest dout dplace dactive dlacks dwaits dfiles X.heap.size cur X := by
  have k1 : KeepI (w.heap.size + 2) T X X := KeepI.refl _ _ _
  have k2 : KeepI lo hi X X := KeepI.refl _ _ _
  have hT := h.top
  exact ⟨h.b0, h.b1, h.o, h.hw, Nat.le_trans h.bT h.top, Nat.le_refl _, h.sc, h.pat.keep k1 k2 hT, h.hold.keep k1 k2 hT, h.rest.keep k1 k2 hT, h.out.keep k1 k2 hT, h.place.keep k1 k2 hT, h.active.keep k1 k2 hT, h.lacks.keep k1 k2 hT, h.waits.keep k1 k2 hT, h.files.keep k1 k2 hT⟩
theorem CF.other (h : CF w lo hi V dpat dhold drest dout dplace dactive dlacks dwaits dfiles T cur X) {g : Nat} (hg : T ≤ g) (j : Nat) (u : Value) : CF w lo hi V dpat dhold drest dout dplace dactive dlacks dwaits dfiles T cur (X.setCell ⟨g, j, none⟩ u) := by
  have ho : Only (fun k => k = g) X (X.setCell ⟨g, j, none⟩ u) := (Only.refl (fun k => k = g) X).setCell (p := ⟨g, j, none⟩) rfl _
  have h1 := h.hw
  have h2 := h.bT
  have h3 := h.top
  have k1 : KeepI (w.heap.size + 2) T X (X.setCell ⟨g, j, none⟩ u) := KeepI.only ho h.top (fun k _ _ => by omega)
  have k2 : KeepI lo hi X (X.setCell ⟨g, j, none⟩ u) := KeepI.only ho (by omega) (fun k _ _ => by omega)
  have hT := Nat.le_refl T
  exact ⟨h.b0.set_other (p := ⟨g, j, none⟩) (by show g ≠ _; omega) _, h.b1.set_other (p := ⟨g, j, none⟩) (by show g ≠ _; omega) _, bl_setCell h.o (by show _ ≤ g; omega) _, h.hw, h.bT, by simpa using h.top, h.sc, h.pat.keep k1 k2 hT, h.hold.keep k1 k2 hT, h.rest.keep k1 k2 hT, h.out.keep k1 k2 hT, h.place.keep k1 k2 hT, h.active.keep k1 k2 hT, h.lacks.keep k1 k2 hT, h.waits.keep k1 k2 hT, h.files.keep k1 k2 hT⟩
theorem CF.keep0 (h : CF w lo hi V dpat dhold drest dout dplace dactive dlacks dwaits dfiles T cur X) (j : Nat) (u : Value) : KeepI (w.heap.size + 2) T X (X.setCell ⟨w.heap.size, j, none⟩ u) ∧ KeepI lo hi X (X.setCell ⟨w.heap.size, j, none⟩ u) ∧ Blk (X.setCell ⟨w.heap.size, j, none⟩ u) (w.heap.size + 1) 43 zeroC.cells ∧ Below w.heap.size w (X.setCell ⟨w.heap.size, j, none⟩ u) := by
  have ho : Only (fun k => k = w.heap.size) X (X.setCell ⟨w.heap.size, j, none⟩ u) := (Only.refl (fun k => k = w.heap.size) X).setCell (p := ⟨w.heap.size, j, none⟩) rfl _
  have h1 := h.hw
  have h2 := h.bT
  have h3 := h.top
  exact ⟨KeepI.only ho h.top (fun k _ _ => by omega), KeepI.only ho (by omega) (fun k _ _ => by omega), h.b1.set_other (p := ⟨w.heap.size, j, none⟩) (by show w.heap.size ≠ _; omega) _, bl_setCell h.o (by show _ ≤ w.heap.size; omega) _⟩
theorem CF.put_pat (h : CF w lo hi V dpat dhold drest dout dplace dactive dlacks dwaits dfiles T cur X) (x : Sl3) (hx : TxI (w.heap.size + 2) T X x V.pat) : CF w lo hi V true dhold drest dout dplace dactive dlacks dwaits dfiles T { cur with pat := x } (X.setCell ⟨w.heap.size, 0, none⟩ x.v) := by
  obtain ⟨k1, k2, hb1, ho⟩ := h.keep0 0 x.v
  have hT := Nat.le_refl T
  exact ⟨h.b0.set 0 _, hb1, ho, h.hw, h.bT, by simpa using h.top, h.sc, hx.keep k1, h.hold.keep k1 k2 hT, h.rest.keep k1 k2 hT, h.out.keep k1 k2 hT, h.place.keep k1 k2 hT, h.active.keep k1 k2 hT, h.lacks.keep k1 k2 hT, h.waits.keep k1 k2 hT, h.files.keep k1 k2 hT⟩
theorem CF.put_hold (h : CF w lo hi V dpat dhold drest dout dplace dactive dlacks dwaits dfiles T cur X) (x : Sl3) (hx : TxI (w.heap.size + 2) T X x V.hold) : CF w lo hi V dpat true drest dout dplace dactive dlacks dwaits dfiles T { cur with hold := x } (X.setCell ⟨w.heap.size, 1, none⟩ x.v) := by
  obtain ⟨k1, k2, hb1, ho⟩ := h.keep0 1 x.v
  have hT := Nat.le_refl T
  exact ⟨h.b0.set 1 _, hb1, ho, h.hw, h.bT, by simpa using h.top, h.sc, h.pat.keep k1 k2 hT, hx.keep k1, h.rest.keep k1 k2 hT, h.out.keep k1 k2 hT, h.place.keep k1 k2 hT, h.active.keep k1 k2 hT, h.lacks.keep k1 k2 hT, h.waits.keep k1 k2 hT, h.files.keep k1 k2 hT⟩
theorem CF.put_rest (h : CF w lo hi V dpat dhold drest dout dplace dactive dlacks dwaits dfiles T cur X) (x : Sl3) (hx : TxI (w.heap.size + 2) T X x V.rest) : CF w lo hi V dpat dhold true dout dplace dactive dlacks dwaits dfiles T { cur with rest := x } (X.setCell ⟨w.heap.size, 10, none⟩ x.v) := by
  obtain ⟨k1, k2, hb1, ho⟩ := h.keep0 10 x.v
  have hT := Nat.le_refl T
  exact ⟨h.b0.set 10 _, hb1, ho, h.hw, h.bT, by simpa using h.top, h.sc, h.pat.keep k1 k2 hT, h.hold.keep k1 k2 hT, hx.keep k1, h.out.keep k1 k2 hT, h.place.keep k1 k2 hT, h.active.keep k1 k2 hT, h.lacks.keep k1 k2 hT, h.waits.keep k1 k2 hT, h.files.keep k1 k2 hT⟩
theorem CF.put_out (h : CF w lo hi V dpat dhold drest dout dplace dactive dlacks dwaits dfiles T cur X) (x : Sl3) (hx : TxI (w.heap.size + 2) T X x V.out) : CF w lo hi V dpat dhold drest true dplace dactive dlacks dwaits dfiles T { cur with out := x } (X.setCell ⟨w.heap.size, 11, none⟩ x.v) := by
  obtain ⟨k1, k2, hb1, ho⟩ := h.keep0 11 x.v
  have hT := Nat.le_refl T
  exact ⟨h.b0.set 11 _, hb1, ho, h.hw, h.bT, by simpa using h.top, h.sc, h.pat.keep k1 k2 hT, h.hold.keep k1 k2 hT, h.rest.keep k1 k2 hT, hx.keep k1, h.place.keep k1 k2 hT, h.active.keep k1 k2 hT, h.lacks.keep k1 k2 hT, h.waits.keep k1 k2 hT, h.files.keep k1 k2 hT⟩
theorem CF.put_place (h : CF w lo hi V dpat dhold drest dout dplace dactive dlacks dwaits dfiles T cur X) (x : Sl3) (hx : TxI (w.heap.size + 2) T X x V.place) : CF w lo hi V dpat dhold drest dout true dactive dlacks dwaits dfiles T { cur with place := x } (X.setCell ⟨w.heap.size, 13, none⟩ x.v) := by
  obtain ⟨k1, k2, hb1, ho⟩ := h.keep0 13 x.v
  have hT := Nat.le_refl T
  exact ⟨h.b0.set 13 _, hb1, ho, h.hw, h.bT, by simpa using h.top, h.sc, h.pat.keep k1 k2 hT, h.hold.keep k1 k2 hT, h.rest.keep k1 k2 hT, h.out.keep k1 k2 hT, hx.keep k1, h.active.keep k1 k2 hT, h.lacks.keep k1 k2 hT, h.waits.keep k1 k2 hT, h.files.keep k1 k2 hT⟩
theorem CF.put_active (h : CF w lo hi V dpat dhold drest dout dplace dactive dlacks dwaits dfiles T cur X) (x : Sl3) (hx : BlI (w.heap.size + 2) T X x V.active) : CF w lo hi V dpat dhold drest dout dplace true dlacks dwaits dfiles T { cur with active := x } (X.setCell ⟨w.heap.size, 23, none⟩ x.v) := by
  obtain ⟨k1, k2, hb1, ho⟩ := h.keep0 23 x.v
  have hT := Nat.le_refl T
  exact ⟨h.b0.set 23 _, hb1, ho, h.hw, h.bT, by simpa using h.top, h.sc, h.pat.keep k1 k2 hT, h.hold.keep k1 k2 hT, h.rest.keep k1 k2 hT, h.out.keep k1 k2 hT, h.place.keep k1 k2 hT, hx.keep k1, h.lacks.keep k1 k2 hT, h.waits.keep k1 k2 hT, h.files.keep k1 k2 hT⟩
theorem CF.put_lacks (h : CF w lo hi V dpat dhold drest dout dplace dactive dlacks dwaits dfiles T cur X) (x : Sl3) (hx : BlI (w.heap.size + 2) T X x V.lacks) : CF w lo hi V dpat dhold drest dout dplace dactive true dwaits dfiles T { cur with lacks := x } (X.setCell ⟨w.heap.size, 26, none⟩ x.v) := by
  obtain ⟨k1, k2, hb1, ho⟩ := h.keep0 26 x.v
  have hT := Nat.le_refl T
  exact ⟨h.b0.set 26 _, hb1, ho, h.hw, h.bT, by simpa using h.top, h.sc, h.pat.keep k1 k2 hT, h.hold.keep k1 k2 hT, h.rest.keep k1 k2 hT, h.out.keep k1 k2 hT, h.place.keep k1 k2 hT, h.active.keep k1 k2 hT, hx.keep k1, h.waits.keep k1 k2 hT, h.files.keep k1 k2 hT⟩
theorem CF.put_waits (h : CF w lo hi V dpat dhold drest dout dplace dactive dlacks dwaits dfiles T cur X) (x : Sl3) (hx : PrI kindV (w.heap.size + 2) T X x V.waits) : CF w lo hi V dpat dhold drest dout dplace dactive dlacks (some true) dfiles T { cur with waits := x } (X.setCell ⟨w.heap.size, 24, none⟩ x.v) := by
  obtain ⟨k1, k2, hb1, ho⟩ := h.keep0 24 x.v
  have hT := Nat.le_refl T
  exact ⟨h.b0.set 24 _, hb1, ho, h.hw, h.bT, by simpa using h.top, h.sc, h.pat.keep k1 k2 hT, h.hold.keep k1 k2 hT, h.rest.keep k1 k2 hT, h.out.keep k1 k2 hT, h.place.keep k1 k2 hT, h.active.keep k1 k2 hT, h.lacks.keep k1 k2 hT, hx.keep k1, h.files.keep k1 k2 hT⟩
theorem CF.put_files (h : CF w lo hi V dpat dhold drest dout dplace dactive dlacks dwaits dfiles T cur X) (x : Sl3) (hx : PrI strV (w.heap.size + 2) T X x V.files) : CF w lo hi V dpat dhold drest dout dplace dactive dlacks dwaits (some true) T { cur with files := x } (X.setCell ⟨w.heap.size, 25, none⟩ x.v) := by
  obtain ⟨k1, k2, hb1, ho⟩ := h.keep0 25 x.v
  have hT := Nat.le_refl T
  exact ⟨h.b0.set 25 _, hb1, ho, h.hw, h.bT, by simpa using h.top, h.sc, h.pat.keep k1 k2 hT, h.hold.keep k1 k2 hT, h.rest.keep k1 k2 hT, h.out.keep k1 k2 hT, h.place.keep k1 k2 hT, h.active.keep k1 k2 hT, h.lacks.keep k1 k2 hT, h.waits.keep k1 k2 hT, hx.keep k1⟩
theorem CF.hole_waits (h : CF w lo hi V dpat dhold drest dout dplace dactive dlacks dwaits dfiles T cur X) (x : Sl3) : CF w lo hi V dpat dhold drest dout dplace dactive dlacks none dfiles T { cur with waits := x } (X.setCell ⟨w.heap.size, 24, none⟩ x.v) := by
  obtain ⟨k1, k2, hb1, ho⟩ := h.keep0 24 x.v
  have hT := Nat.le_refl T
  exact ⟨h.b0.set 24 _, hb1, ho, h.hw, h.bT, by simpa using h.top, h.sc, h.pat.keep k1 k2 hT, h.hold.keep k1 k2 hT, h.rest.keep k1 k2 hT, h.out.keep k1 k2 hT, h.place.keep k1 k2 hT, h.active.keep k1 k2 hT, h.lacks.keep k1 k2 hT, trivial, h.files.keep k1 k2 hT⟩
theorem CF.fill_waits (h : CF w lo hi V dpat dhold drest dout dplace dactive dlacks none dfiles T cur X) (hx : PrI kindV (w.heap.size + 2) X.heap.size X cur.waits V.waits) : CF w lo hi V dpat dhold drest dout dplace dactive dlacks (some true) dfiles X.heap.size cur X := by
  have k1 : KeepI (w.heap.size + 2) T X X := KeepI.refl _ _ _
  have k2 : KeepI lo hi X X := KeepI.refl _ _ _
  have hT := h.top
  exact ⟨h.b0, h.b1, h.o, h.hw, Nat.le_trans h.bT h.top, Nat.le_refl _, h.sc, h.pat.keep k1 k2 hT, h.hold.keep k1 k2 hT, h.rest.keep k1 k2 hT, h.out.keep k1 k2 hT, h.place.keep k1 k2 hT, h.active.keep k1 k2 hT, h.lacks.keep k1 k2 hT, hx, h.files.keep k1 k2 hT⟩
theorem CF.hole_files (h : CF w lo hi V dpat dhold drest dout dplace dactive dlacks dwaits dfiles T cur X) (x : Sl3) : CF w lo hi V dpat dhold drest dout dplace dactive dlacks dwaits none T { cur with files := x } (X.setCell ⟨w.heap.size, 25, none⟩ x.v) := by
  obtain ⟨k1, k2, hb1, ho⟩ := h.keep0 25 x.v
  have hT := Nat.le_refl T
  exact ⟨h.b0.set 25 _, hb1, ho, h.hw, h.bT, by simpa using h.top, h.sc, h.pat.keep k1 k2 hT, h.hold.keep k1 k2 hT, h.rest.keep k1 k2 hT, h.out.keep k1 k2 hT, h.place.keep k1 k2 hT, h.active.keep k1 k2 hT, h.lacks.keep k1 k2 hT, h.waits.keep k1 k2 hT, trivial⟩
theorem CF.fill_files (h : CF w lo hi V dpat dhold drest dout dplace dactive dlacks dwaits none T cur X) (hx : PrI strV (w.heap.size + 2) X.heap.size X cur.files V.files) : CF w lo hi V dpat dhold drest dout dplace dactive dlacks dwaits (some true) X.heap.size cur X := by
  have k1 : KeepI (w.heap.size + 2) T X X := KeepI.refl _ _ _
  have k2 : KeepI lo hi X X := KeepI.refl _ _ _
  have hT := h.top
  exact ⟨h.b0, h.b1, h.o, h.hw, Nat.le_trans h.bT h.top, Nat.le_refl _, h.sc, h.pat.keep k1 k2 hT, h.hold.keep k1 k2 hT, h.rest.keep k1 k2 hT, h.out.keep k1 k2 hT, h.place.keep k1 k2 hT, h.active.keep k1 k2 hT, h.lacks.keep k1 k2 hT, h.waits.keep k1 k2 hT, hx⟩
theorem CF.end (h : CF w lo hi V true true true true true true true (some true) (some true) T cur X) : SIn (w.heap.size + 2) T cur V X :=
  ⟨h.top, h.sc, h.pat, h.hold, h.rest, h.out, h.place, h.active, h.lacks, h.waits, h.files⟩
theorem CF.start {s : StC} (h : SIn lo hi s V w) : CF w lo hi V false false false false false false false (some false) (some false) (w.heap.size + 2) s ((w.alloc (.cells s.cells.toArray 43)).alloc (.cells zeroC.cells.toArray 43)) := by
  have hb : Below w.heap.size w ((w.alloc (.cells s.cells.toArray 43)).alloc (.cells zeroC.cells.toArray 43)) := bl_alloc (bl_alloc (Below.refl _ _) _) _
  have h2 := h.below hb
  exact ⟨(Blk.new w _ _).alloc _, by simpa using Blk.new (w.alloc (.cells s.cells.toArray 43)) 43 zeroC.cells, hb, h.top, Nat.le_refl _, by simp, h.sc, h2.pat, h2.hold, h2.rest, h2.out, h2.place, h2.active, h2.lacks, h2.waits, h2.files⟩
end
/-- a row in progress, and a store into the box -/
theorem PrL.box {α : Type} {f : α → Value} {l : List (α × List UInt8)} {E base n lo hi m : Nat} {v : Value} {X : World} (h : PrL f l E base n lo hi v m X) {b : Nat} (hb : b < base) (hb2 : hi ≤ b) (j : Nat) (u : Value) : PrL f l E base n lo hi v m (X.setCell ⟨b, j, none⟩ u) := by
  obtain ⟨ss, h1, h2, h3, h4, h5⟩ := h.ex
  have ht := h.top
  have hl := h.low
  have ho : Only (fun k => k = b) X (X.setCell ⟨b, j, none⟩ u) := (Only.refl (fun k => k = b) X).setCell (p := ⟨b, j, none⟩) rfl _
  have hsz : (X.setCell ⟨b, j, none⟩ u).heap.size = X.heap.size := by simp
  refine ⟨by rw [hsz]; exact ht, hl, h.le, ss, h1, h2.kept (row := some b) ⟨ho.os, ho.tape, ho.output, ho.size, fun i hi hne => ho.block i hi (fun e => hne (by rw [e]))⟩ ?_, h3, fun i a c d => ?_, fun i a c d => (h5 i a c d).keep (KeepI.only ho (by omega) (fun k _ _ => by omega))⟩
  · cases he : v.ownBlock with
    | none => exact .inl rfl
    | some g => exact .inr (fun e => by have := (h2.lt g he).1; have e2 := Option.some.inj e; omega)
  · rw [hsz]
    exact (h4 i a c d).keep (KeepI.only ho (Nat.le_refl _) (fun k _ _ => by omega))
end Go.Proofs.Ytfidmpkblmebeaa
