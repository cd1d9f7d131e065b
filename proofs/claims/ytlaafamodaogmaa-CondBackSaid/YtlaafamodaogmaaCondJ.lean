/-
  A state's cells; whether a condition holds of two states; of chapter 27.
  Conditions: as each theorem states them.
-/
import Derived.Test.YtlaafamodaogmaaCondUv
namespace Go.Proofs.Ytlaafamodaogmaa
open Go.RowKit
set_option linter.unusedVariables false
set_option linter.unusedSimpArgs false
open CM (Sv)
structure Sl3 where
  a : Option Addr
  n : Nat
  c : Nat
abbrev Sl3.v (s : Sl3) : Value := .slice s.a s.n s.c
/-- a state's cells -/
structure StC where
  pat : Sl3
  hold : Sl3
  nl : Bool
  line : Int
  subst : Bool
  last : Int
  next : Int
  opn : Int
  cur : Int
  missing : Int
  rest : Sl3
  out : Sl3
  short : Bool
  place : Sl3
  pshort : Bool
  phase : Int
  pc : Int
  exit : Int
  stop : Int
  err : Int
  silent : Bool
  quit : Bool
  again : Bool
  active : Sl3
  waits : Sl3
  files : Sl3
  lacks : Sl3
def StC.cells (s : StC) : List Value := [s.pat.v, s.hold.v, .bool s.nl, .int .i64 s.line, .bool s.subst, .int .i64 s.last, .int .i64 s.next, .int .i64 s.opn, .int .i64 s.cur, .int .i64 s.missing, s.rest.v, s.out.v, .bool s.short, s.place.v, .bool s.pshort, .int .i64 s.phase, .int .i64 s.pc, .int .i64 s.exit, .int .i64 s.stop, .int .i64 s.err,
  .bool s.silent, .bool s.quit, .bool s.again, s.active.v, s.waits.v, s.files.v, s.lacks.v]
/-- a slice holds a text -/
def TxOk (w : World) (s : Sl3) (t : List UInt8) : Prop := s.n = t.length ∧ t.length ≤ s.c ∧ BytesAt w s.a t ∧ t.length ≤ 100000
/-- what a condition sees of a state's cells -/
structure StSv (w : World) (s : StC) (v : Sv) : Prop where
  line : v.line = s.line
  pc : v.pc = s.pc
  exit : v.exit = s.exit
  waits : v.waits = (s.waits.n : Int)
  pattern : TxOk w s.pat v.pattern
  hold : TxOk w s.hold v.hold
  rest : TxOk w s.rest v.rest
  out : TxOk w s.out v.out
  subst : v.subst = s.subst
  silent : v.silent = s.silent
  quit : v.quit = s.quit
  again : v.again = s.again
  err : v.err = s.err
  phase : v.phase = s.phase
theorem TxOk.below {w w' : World} {s : Sl3} {t : List UInt8} (h : TxOk w s t) (hb : Below w.heap.size w w') : TxOk w' s t := ⟨h.1, h.2.1, h.2.2.1.below hb, h.2.2.2⟩
theorem StSv.below {w w' : World} {s : StC} {v : Sv} (h : StSv w s v) (hb : Below w.heap.size w w') : StSv w' s v :=
  { h with pattern := h.pattern.below hb, hold := h.hold.below hb, rest := h.rest.below hb, out := h.out.below hb }
theorem TxOk.at {w : World} {s : Sl3} {t : List UInt8} {b j : Nat} (h : TxOk w s t) (hc : w.cell? ⟨b, j, none⟩ = some s.v) : TxAt w b j t := by
  obtain ⟨h1, h2, h3, h4⟩ := h
  exact ⟨s.a, s.c, by rw [hc, ← h1], h2, h3, h4⟩
theorem StSv.at {w : World} {s : StC} {v : Sv} {b : Nat} (h : StSv w s v) (hb : Blk w b 34 s.cells) : SvAt w b v := by
  refine ⟨hb.lt, ?_, ?_, ?_, ⟨s.waits.a, s.waits.n, s.waits.c, hb.cell 24, h.waits.symm⟩, h.pattern.at (hb.cell 0), h.hold.at (hb.cell 1), h.rest.at (hb.cell 10), h.out.at (hb.cell 11), ?_, ?_, ?_, ?_, ?_, ?_⟩
  · rw [h.line]; exact hb.cell 3
  · rw [h.pc]; exact hb.cell 16
  · rw [h.exit]; exact hb.cell 17
  · rw [h.subst]; exact hb.cell 4
  · rw [h.silent]; exact hb.cell 20
  · rw [h.quit]; exact hb.cell 21
  · rw [h.again]; exact hb.cell 22
  · rw [h.err]; exact hb.cell 19
  · rw [h.phase]; exact hb.cell 15
theorem CondIs.below {W W' : World} {c : Nat} {s : List UInt8} {phi : CM.M} (h : CondIs W c s phi) (hb : Below W.heap.size W W') : CondIs W' c s phi := by
  obtain ⟨g, v, h1, h2, h3⟩ := h
  exact ⟨g, v, h1.below hb, h2.later (Only.of_below hb), h3⟩
set_option maxHeartbeats 4000000 in
set_option maxRecDepth 100000 in
theorem holds_nil (s1 s2 : StC) (W : World) : Calls Try.prog 12 #[.pointer none, .agg s1.cells.toArray, .agg s2.cells.toArray] W fun e w' => e = .returned (.bool false) ∧ Below W.heap.size W w' := by
  unfold StC.cells
  go_enter Try.func12, Try.ntmps12
  go_wp2_with fail
  go_ret
  exact ⟨rfl, bl_alloc (bl_alloc (Below.refl _ _) _) _⟩
set_option maxHeartbeats 4000000 in
set_option maxRecDepth 100000 in
theorem holds_any {W : World} {c : Nat} {t : List UInt8} {phi : CM.M} {s1 s2 : StC} {v1 v2 : Sv} (h : CondIs W c t phi) (h1 : StSv W s1 v1) (h2 : StSv W s2 v2) (hm : MxAt W) :
    Calls Try.prog 12 #[.pointer (some ⟨c, 0, none⟩), .agg s1.cells.toArray, .agg s2.cells.toArray] W fun e w' => e = .returned (.bool (phi v1 v2)) ∧ Below W.heap.size W w' := by
  obtain ⟨W1, hW1⟩ : ∃ W1, W.alloc (.cells s1.cells.toArray 34) = W1 := ⟨_, rfl⟩
  obtain ⟨W2, hW2⟩ : ∃ W2, W1.alloc (.cells s2.cells.toArray 34) = W2 := ⟨_, rfl⟩
  have hb : Below W.heap.size W W2 := by rw [← hW2, ← hW1]; exact bl_alloc (bl_alloc (Below.refl _ _) _) _
  have hB1 : Blk W2 W.heap.size 34 s1.cells := by rw [← hW2, ← hW1]; exact (Blk.new W _ _).alloc _
  have hB2 : Blk W2 (W.heap.size + 1) 34 s2.cells := by
    rw [show W.heap.size + 1 = W1.heap.size by rw [← hW1]; simp, ← hW2]; exact Blk.new W1 _ _
  obtain ⟨g, v, hc, hH, hg⟩ := h.below hb
  obtain ⟨f, caps, rfl, hE, hh⟩ := hH
  have hcall := Lib.hid (hh W2 (Only.refl _ _) _ _ _ _ ((h1.below hb).at hB1) ((h2.below hb).at hB2) (hm.below hb))
  have k0 : W2.cell? ⟨c, 0, none⟩ = some (.func (.func f) #[] caps) := hc.cell 0
  have hcl := hc.lt
  have hW : (W.alloc (.cells s1.cells.toArray 34)).alloc (.cells s2.cells.toArray 34) = W2 := by rw [hW1, hW2]
  unfold StC.cells at hW
  replace hW := Lib.hid hW
  replace hb := Lib.hid hb
  unfold Ent at hE
  clear h h1 h2 hm hB1 hB2 hc hh hW1 hW2
  unfold StC.cells
  go_enter Try.func12, Try.ntmps12
  go_upto_region 1 with fail
  rw [hW.out]
  go_wp2_with ((with_reducible refine hcall.out.mono ?_); rintro e w3 ⟨rfl, q, rfl⟩)
  go_ret
  exact ⟨rfl, bl_drewN hb.out _⟩
end Go.Proofs.Ytlaafamodaogmaa
