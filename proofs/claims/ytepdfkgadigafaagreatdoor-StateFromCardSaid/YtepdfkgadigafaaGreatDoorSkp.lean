/-
  The cursor's Skip; of chapter 16.
  Conditions: as each theorem states them.
-/
import Derived.Test.YtepdfkgadigafaaGreatDoorWhl
import Derived.Test.YtepdfkgadigafaaGreatDoorIdx
import Derived.Test.YtepdfkgadigafaaGreatDoorEscA
namespace Go.Proofs.YtepdfkgadigafaaGreatDoor
open Go.RowKit
set_option linter.unusedVariables false
set_option linter.unusedSimpArgs false
/-- is a byte one of these? -/
def oneOf (A : List UInt8) (x : UInt8) : Bool := decide (0 ≤ Lib.indexByte A x)
/-- a call of a function that has a body: it is entered -/
theorem run_callFunc_go {P : Program} {f : FuncId} {fn : Func} {c : Code} (hf : P.funcs[f]? = some fn) (hname : (fn.name == "runtime.NumGoroutine") = false) (hb : fn.body = some c) (args : Array Value) (w : World) :
    (callFunc f args).run P w = .ok (.enter f args) w := by
  have h1 : fn.name ≠ "runtime.NumGoroutine" := by simpa using hname
  simp [callFunc, hf, h1, hb]
theorem cf_skip (args : Array Value) (X : World) : (callFunc 116 args).run Tryz.prog X = .ok (.enter 116 args) X :=
  run_callFunc_go Tryz.func116 (by kernel_rfl) rfl args X
theorem skipf_any (A : List UInt8) (q b o ac : Nat) (x : UInt8) (X : World) (hq : Blk X q 22 [.slice (some ⟨b, o, none⟩) A.length ac]) (hr : ByteRow X b o A) :
    Calls Tryz.prog 116 #[.int .u8 (x.toNat : Int), .pointer (some ⟨q, 0, none⟩)] X fun e X' => e = .returned (.bool (oneOf A x)) ∧ X' = X := by
  have c0 : X.cell? ⟨q, 0, none⟩ = some (.slice (some ⟨b, o, none⟩) A.length ac) := hq.cell 0
  have h := Tryz.bytes_IndexByte b o A.length ac (A.map fun c => (c.toNat : Int)) (x.toNat : Int) X (by simp) (fun i hi => by rw [hr i hi]; simp [List.getD, hi])
  rw [bytesOf_nats] at h
  have e1 : ((x.toNat : Int)).toNat.toUInt8 = x := by simp
  rw [e1] at h
  unfold oneOf
  generalize Lib.indexByte A x = I at *
  clear hq hr
  replace h := Lib.hid h
  go_enter Tryz.func116, Tryz.ntmps116
  go_wp2_with (go_at_call 101; (with_reducible refine h.out.mono ?_); rintro e w2 ⟨rfl, rfl⟩)
  all_goals go_ret
  all_goals exact ⟨by simp, rfl⟩
/-- bytes in a block that is not g -/
def RowNe (w : World) (g : Nat) (aa : Option Addr) (A : List UInt8) : Prop := ∃ b o, aa = some ⟨b, o, none⟩ ∧ b ≠ g ∧ b < w.heap.size ∧ ByteRow w b o A
set_option maxHeartbeats 2000000 in
set_option maxRecDepth 100000 in
theorem skip_any {w : World} {g : Nat} {ba : Option Addr} {c : Nat} {s : List UInt8} {k : Nat} (h : CuAt w g ba c s k) (A : List UInt8) (aa : Option Addr) (ac : Nat) (hA : RowNe w g aa A) :
    Calls Tryz.prog 90 #[.pointer (some ⟨g, 0, none⟩), .slice aa A.length ac] w fun e w' => e = .returned (.int .i64 ((runTo (oneOf A) s k - k : Nat) : Int)) ∧ CuAt w' g ba c s (runTo (oneOf A) s k) ∧ Only (fun j => j = g) w w' := by
  obtain ⟨b, o, rfl, hbg, hbl, hr⟩ := hA
  have hgl := h.cu.lt
  obtain ⟨W1, hW1⟩ : ∃ X, w.alloc (.cells #[.slice (some ⟨b, o, none⟩) A.length ac] 22) = X := ⟨_, rfl⟩
  have hb1 : Below w.heap.size w W1 := by rw [← hW1]; exact bl_alloc (Below.refl _ _) _
  have hq : Blk W1 w.heap.size 22 [.slice (some ⟨b, o, none⟩) A.length ac] := by rw [← hW1]; exact Blk.new w _ _
  have hw := while_any (h.below hb1) (oneOf A) 116 #[.pointer (some ⟨w.heap.size, 0, none⟩)] cf_skip (fun X hX x => by
    show Calls _ _ #[.int .u8 (x.toNat : Int), .pointer (some ⟨w.heap.size, 0, none⟩)] _ _
    refine skipf_any A w.heap.size b o ac x X (hq.only hX (by omega)) (fun i hi => ?_)
    rw [World.cell?_of_block (a := ⟨b, o + i, none⟩) (hX.block b (Nat.lt_of_lt_of_le hbl hb1.size) hbg), hb1.cell (p := ⟨b, o + i, none⟩) hbl]
    exact hr i hi)
  replace hw := Lib.hid hw
  replace hW1 := Lib.hid hW1
  have hle := runTo_le (H := oneOf A) h.le
  have hln := h.len
  go_enter Tryz.func90, Tryz.ntmps90
  go_upto_region 1 with fail
  rw [hW1.out]
  go_wp2_with (go_at_call 115; (with_reducible refine hw.out.mono ?_); rintro e w2 ⟨v, rfl, ho, hC, hO⟩; obtain ⟨va, vc, rfl⟩ := own_slice ho; clear ho)
  all_goals go_ret
  all_goals exact ⟨rfl, hC, (Only.of_below hb1).trans hO⟩
end Go.Proofs.YtepdfkgadigafaaGreatDoor
