/-
  The reference's Show at any state (what is quoted; the registers; nothing), of chapter 30.
  Conditions: as each theorem states them.
-/
import Derived.Test.YtjfpepinmbbnbaaDoorStAt
import Derived.Test.YtjfpepinmbbnbaaDoorWh0
import Derived.Deep.RegionHeld3
namespace Go.Proofs.YtjfpepinmbbnbaaDoor
open Go.RowKit
set_option linter.unusedVariables false
set_option linter.unusedSimpArgs false
set_option maxHeartbeats 2000000 in
set_option maxRecDepth 100000 in
theorem rshow_pat (s : StC) (b : StB) (w : World) (hst : StAt w s b) :
    Calls Tryd.prog 37 #[.agg s.cells.toArray, .string ⟨#[112, 97, 116, 116, 101, 114, 110]⟩] w (ShowIs (some [qS b.pat]) w) := by
  have hz := (Blk.new w 66 s.cells).cell 0
  have hb1 : Below w.heap.size w (w.alloc (.cells s.cells.toArray 66)) := bl_alloc (Below.refl _ _) _
  obtain ⟨W1, hW1⟩ : ∃ W1, w.alloc (.cells s.cells.toArray 66) = W1 := ⟨_, rfl⟩
  rw [hW1] at hz hb1
  replace hz : W1.cell? ⟨w.heap.size, 0, none⟩ = some (.slice s.pat.a s.pat.n s.pat.c) := hz
  rw [hst.patN] at hz
  have hq := Lib.hid (rquote_any s.pat.a s.pat.c b.pat W1 (by have := hst.patL; omega) (hst.patAt.below hb1))
  clear hst
  generalize s.cells.toArray = cs at *
  go_enter Tryd.func37, Tryd.ntmps37
  go_wp2_with (go_at_call 71; refine hq.out.mono ?_; rintro e w2 ⟨rfl, hb2⟩)
  all_goals go_ret2
  all_goals exact ⟨_, rfl, StrsAt.one ((Blk.new w2 _ [.string (qS b.pat)]).cell 0) (by simp), bl_alloc (bl_trans hb1 hb2) _⟩
set_option maxHeartbeats 2000000 in
set_option maxRecDepth 100000 in
theorem rshow_hold (s : StC) (b : StB) (w : World) (hst : StAt w s b) :
    Calls Tryd.prog 37 #[.agg s.cells.toArray, .string ⟨#[104, 111, 108, 100]⟩] w (ShowIs (some [qS b.hold]) w) := by
  have hz := (Blk.new w 66 s.cells).cell 1
  have hb1 : Below w.heap.size w (w.alloc (.cells s.cells.toArray 66)) := bl_alloc (Below.refl _ _) _
  obtain ⟨W1, hW1⟩ : ∃ W1, w.alloc (.cells s.cells.toArray 66) = W1 := ⟨_, rfl⟩
  rw [hW1] at hz hb1
  replace hz : W1.cell? ⟨w.heap.size, 1, none⟩ = some (.slice s.hold.a s.hold.n s.hold.c) := hz
  rw [hst.holdN] at hz
  have hq := Lib.hid (rquote_any s.hold.a s.hold.c b.hold W1 (by have := hst.holdL; omega) (hst.holdAt.below hb1))
  clear hst
  generalize s.cells.toArray = cs at *
  go_enter Tryd.func37, Tryd.ntmps37
  go_wp2_with (go_at_call 71; refine hq.out.mono ?_; rintro e w2 ⟨rfl, hb2⟩)
  all_goals go_ret2
  all_goals exact ⟨_, rfl, StrsAt.one ((Blk.new w2 _ [.string (qS b.hold)]).cell 0) (by simp), bl_alloc (bl_trans hb1 hb2) _⟩
set_option maxHeartbeats 2000000 in
set_option maxRecDepth 100000 in
theorem rshow_rest (s : StC) (b : StB) (w : World) (hst : StAt w s b) :
    Calls Tryd.prog 37 #[.agg s.cells.toArray, .string ⟨#[114, 101, 115, 116]⟩] w (ShowIs (some [qS b.rest]) w) := by
  have hz := (Blk.new w 66 s.cells).cell 10
  have hb1 : Below w.heap.size w (w.alloc (.cells s.cells.toArray 66)) := bl_alloc (Below.refl _ _) _
  obtain ⟨W1, hW1⟩ : ∃ W1, w.alloc (.cells s.cells.toArray 66) = W1 := ⟨_, rfl⟩
  rw [hW1] at hz hb1
  replace hz : W1.cell? ⟨w.heap.size, 10, none⟩ = some (.slice s.rest.a s.rest.n s.rest.c) := hz
  rw [hst.restN] at hz
  have hq := Lib.hid (rquote_any s.rest.a s.rest.c b.rest W1 (by have := hst.restL; omega) (hst.restAt.below hb1))
  clear hst
  generalize s.cells.toArray = cs at *
  go_enter Tryd.func37, Tryd.ntmps37
  go_wp2_with (go_at_call 71; refine hq.out.mono ?_; rintro e w2 ⟨rfl, hb2⟩)
  all_goals go_ret2
  all_goals exact ⟨_, rfl, StrsAt.one ((Blk.new w2 _ [.string (qS b.rest)]).cell 0) (by simp), bl_alloc (bl_trans hb1 hb2) _⟩
set_option maxHeartbeats 2000000 in
set_option maxRecDepth 100000 in
theorem rshow_out (s : StC) (b : StB) (w : World) (hst : StAt w s b) :
    Calls Tryd.prog 37 #[.agg s.cells.toArray, .string ⟨#[111, 117, 116]⟩] w (ShowIs (some [qS b.out]) w) := by
  have hz := (Blk.new w 66 s.cells).cell 11
  have hb1 : Below w.heap.size w (w.alloc (.cells s.cells.toArray 66)) := bl_alloc (Below.refl _ _) _
  obtain ⟨W1, hW1⟩ : ∃ W1, w.alloc (.cells s.cells.toArray 66) = W1 := ⟨_, rfl⟩
  rw [hW1] at hz hb1
  replace hz : W1.cell? ⟨w.heap.size, 11, none⟩ = some (.slice s.out.a s.out.n s.out.c) := hz
  rw [hst.outN] at hz
  have hq := Lib.hid (rquote_any s.out.a s.out.c b.out W1 (by have := hst.outL; omega) (hst.outAt.below hb1))
  clear hst
  generalize s.cells.toArray = cs at *
  go_enter Tryd.func37, Tryd.ntmps37
  go_wp2_with (go_at_call 71; refine hq.out.mono ?_; rintro e w2 ⟨rfl, hb2⟩)
  all_goals go_ret2
  all_goals exact ⟨_, rfl, StrsAt.one ((Blk.new w2 _ [.string (qS b.out)]).cell 0) (by simp), bl_alloc (bl_trans hb1 hb2) _⟩
set_option maxHeartbeats 2000000 in
set_option maxRecDepth 100000 in
theorem rshow_place (s : StC) (b : StB) (w : World) (hst : StAt w s b) :
    Calls Tryd.prog 37 #[.agg s.cells.toArray, .string ⟨#[112, 108, 97, 99, 101]⟩] w (ShowIs (some [qS b.place]) w) := by
  have hz := (Blk.new w 66 s.cells).cell 13
  have hb1 : Below w.heap.size w (w.alloc (.cells s.cells.toArray 66)) := bl_alloc (Below.refl _ _) _
  obtain ⟨W1, hW1⟩ : ∃ W1, w.alloc (.cells s.cells.toArray 66) = W1 := ⟨_, rfl⟩
  rw [hW1] at hz hb1
  replace hz : W1.cell? ⟨w.heap.size, 13, none⟩ = some (.slice s.place.a s.place.n s.place.c) := hz
  rw [hst.placeN] at hz
  have hq := Lib.hid (rquote_any s.place.a s.place.c b.place W1 (by have := hst.placeL; omega) (hst.placeAt.below hb1))
  clear hst
  generalize s.cells.toArray = cs at *
  go_enter Tryd.func37, Tryd.ntmps37
  go_wp2_with (go_at_call 71; refine hq.out.mono ?_; rintro e w2 ⟨rfl, hb2⟩)
  all_goals go_ret2
  all_goals exact ⟨_, rfl, StrsAt.one ((Blk.new w2 _ [.string (qS b.place)]).cell 0) (by simp), bl_alloc (bl_trans hb1 hb2) _⟩
theorem beq_lit (a : ByteArray) (l : List UInt8) : (a == (⟨l.toArray⟩ : ByteArray)) = (a.toList == l) := by
  rw [beq_toListBytes]
  congr 1
  rw [ByteArray.toList_eq]
set_option maxHeartbeats 2000000 in
set_option maxRecDepth 100000 in
theorem rshow_none (cs : Array Value) (what : ByteArray) (h0 : (what == ⟨#[112, 97, 116, 116, 101, 114, 110]⟩) = false) (h1 : (what == ⟨#[104, 111, 108, 100]⟩) = false) (h2 : (what == ⟨#[114, 101, 115, 116]⟩) = false) (h3 : (what == ⟨#[111, 117, 116]⟩) = false) (h4 : (what == ⟨#[112, 108, 97, 99, 101]⟩) = false) (h5 : (what == ⟨#[114, 101, 103, 115]⟩) = false) (h6 : (what == ⟨#[119, 97, 105, 116, 115]⟩) = false) (h7 : (what == ⟨#[102, 105, 108, 101, 115]⟩) = false) (w : World) :
    Calls Tryd.prog 37 #[.agg cs, .string what] w (ShowIs none w) := by
  have k0 : (what.toList == [112, 97, 116, 116, 101, 114, 110]) = false := (beq_lit what [112, 97, 116, 116, 101, 114, 110]).symm.trans h0
  have k1 : (what.toList == [104, 111, 108, 100]) = false := (beq_lit what [104, 111, 108, 100]).symm.trans h1
  have k2 : (what.toList == [114, 101, 115, 116]) = false := (beq_lit what [114, 101, 115, 116]).symm.trans h2
  have k3 : (what.toList == [111, 117, 116]) = false := (beq_lit what [111, 117, 116]).symm.trans h3
  have k4 : (what.toList == [112, 108, 97, 99, 101]) = false := (beq_lit what [112, 108, 97, 99, 101]).symm.trans h4
  have k5 : (what.toList == [114, 101, 103, 115]) = false := (beq_lit what [114, 101, 103, 115]).symm.trans h5
  have k6 : (what.toList == [119, 97, 105, 116, 115]) = false := (beq_lit what [119, 97, 105, 116, 115]).symm.trans h6
  have k7 : (what.toList == [102, 105, 108, 101, 115]) = false := (beq_lit what [102, 105, 108, 101, 115]).symm.trans h7
  clear h0 h1 h2 h3 h4 h5 h6 h7
  go_enter Tryd.func37, Tryd.ntmps37
  go_wp2_with fail
  all_goals go_ret2
  all_goals exact ⟨_, rfl, StrsAt.nil _, bl_alloc (Below.refl _ _) _⟩
end Go.Proofs.YtjfpepinmbbnbaaDoor
