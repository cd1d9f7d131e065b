/-
  parse.parser in memory; what it asks of its cursor: is, blanks, isDigit; of chapter 16.
  Conditions: as each theorem states them.
-/
import Derived.Test.YtepdfkgadigafaaGreatDoorSkp
import Derived.Test.YtepdfkgadigafaaGreatDoorDigit
namespace Go.Proofs.YtepdfkgadigafaaGreatDoor
open Go.RowKit
set_option linter.unusedVariables false
set_option linter.unusedSimpArgs false
/-- a parser at block p, its cursor at block g, the rest of its cells -/
structure PaAt (w : World) (p g : Nat) (ba : Option Addr) (c : Nat) (s : List UInt8) (k : Nat) (rest : List Value) : Prop where
  pa : Blk w p 153 (.pointer (some ⟨g, 0, none⟩) :: rest)
  cu : CuAt w g ba c s k
  ne : p ≠ g
theorem PaAt.below {w w' : World} {p g : Nat} {ba : Option Addr} {c : Nat} {s : List UInt8} {k : Nat} {rest : List Value} (h : PaAt w p g ba c s k rest) (hb : Below w.heap.size w w') : PaAt w' p g ba c s k rest :=
  ⟨h.pa.below hb, h.cu.below hb, h.ne⟩
theorem PaAt.go {w w' : World} {p g : Nat} {ba : Option Addr} {c : Nat} {s : List UInt8} {k j : Nat} {rest : List Value} (h : PaAt w p g ba c s k rest) (hc : CuAt w' g ba c s j) (ho : Only (fun i => i = g) w w') : PaAt w' p g ba c s j rest :=
  ⟨h.pa.only ho h.ne, hc, h.ne⟩
theorem byte_beq (a b : UInt8) : ((a.toNat : Int) == (b.toNat : Int)) = (a == b) := by
  rw [Bool.eq_iff_iff]
  simp only [beq_iff_eq]
  exact ⟨fun h => UInt8.toNat_inj.1 (by omega), fun h => by rw [h]⟩
/-- does that byte stand at the place? -/
def isB (s : List UInt8) (k : Nat) (x : UInt8) : Bool := decide (k < s.length) && (pkB s k == x)
set_option maxHeartbeats 2000000 in
set_option maxRecDepth 100000 in
theorem pis_any {w : World} {p g : Nat} {ba : Option Addr} {c : Nat} {s : List UInt8} {k : Nat} {rest : List Value} (h : PaAt w p g ba c s k rest) (x : UInt8) :
    Calls Tryz.prog 117 #[.pointer (some ⟨p, 0, none⟩), .int .u8 (x.toNat : Int)] w fun e w' => e = .returned (.bool (isB s k x)) ∧ Below w.heap.size w w' := by
  have c0 : w.cell? ⟨p, 0, none⟩ = some (.pointer (some ⟨g, 0, none⟩)) := h.pa.cell 0
  have hp := peek_any h.cu
  have hq := byte_beq (pkB s k) x
  unfold isB
  generalize (pkB s k == x) = B at *
  generalize pkB s k = y at *
  generalize decide (k < s.length) = D at *
  clear h
  replace hp := Lib.hid hp
  cases D
  all_goals
    go_enter Tryz.func117, Tryz.ntmps117
    go_wp2_with (go_at_call 142; (with_reducible refine hp.out.mono ?_); rintro e w2 ⟨rfl, hb⟩)
    all_goals go_ret
    all_goals exact ⟨rfl, hb⟩
theorem skip_lit {w : World} {g : Nat} {ba : Option Addr} {c : Nat} {s : List UInt8} {k : Nat} (h : CuAt w g ba c s k) (A : List UInt8) (n : Nat) (hn : A.length = n) (aa : Option Addr) (ac : Nat) (hA : RowNe w g aa A) :
    Calls Tryz.prog 90 #[.pointer (some ⟨g, 0, none⟩), .slice aa n ac] w fun e w' => e = .returned (.int .i64 ((runTo (oneOf A) s k - k : Nat) : Int)) ∧ CuAt w' g ba c s (runTo (oneOf A) s k) ∧ Only (fun j => j = g) w w' := by
  subst hn
  exact skip_any h A aa ac hA
theorem pis_lit {w : World} {p g : Nat} {ba : Option Addr} {c : Nat} {s : List UInt8} {k : Nat} {rest : List Value} (h : PaAt w p g ba c s k rest) (x : UInt8) (n : Int) (hn : (x.toNat : Int) = n) (B : Bool) (hB : isB s k x = B) :
    Calls Tryz.prog 117 #[.pointer (some ⟨p, 0, none⟩), .int .u8 n] w fun e w' => e = .returned (.bool B) ∧ Below w.heap.size w w' := by
  subst hn hB
  exact pis_any h x
/-- what blanks are -/
abbrev blk2 : List UInt8 := [32, 9]
set_option maxHeartbeats 2000000 in
set_option maxRecDepth 100000 in
theorem pblanks_any {w : World} {p g : Nat} {ba : Option Addr} {c : Nat} {s : List UInt8} {k : Nat} {rest : List Value} (h : PaAt w p g ba c s k rest) :
    Calls Tryz.prog 120 #[.pointer (some ⟨p, 0, none⟩)] w fun e w' => e = .returned (.tuple #[]) ∧ PaAt w' p g ba c s (runTo (oneOf blk2) s k) rest ∧ Only (fun j => j = g) w w' := by
  have c0 : w.cell? ⟨p, 0, none⟩ = some (.pointer (some ⟨g, 0, none⟩)) := h.pa.cell 0
  have hgl := h.cu.cu.lt
  obtain ⟨W1, hW1⟩ : ∃ X, w.alloc (.cells #[.int .u8 32, .int .u8 9] 5) = X := ⟨_, rfl⟩
  have hb1 : Below w.heap.size w W1 := by rw [← hW1]; exact bl_alloc (Below.refl _ _) _
  have hr : RowNe W1 g (some ⟨w.heap.size, 0, none⟩) blk2 := by
    refine ⟨_, _, rfl, by omega, by rw [← hW1]; simp, fun i hi => ?_⟩
    have hB : Blk W1 w.heap.size 5 [.int .u8 32, .int .u8 9] := by rw [← hW1]; exact Blk.new w _ _
    have := hB.cell (0 + i)
    rw [this]
    have hi : i < 2 := hi
    rcases (by omega : i = 0 ∨ i = 1) with rfl | rfl <;> rfl
  have hs := Lib.hid (skip_lit (h.cu.below hb1) blk2 2 rfl _ 2 hr)
  replace hW1 := Lib.hid hW1
  replace hr := Lib.hid hr
  go_enter Tryz.func120, Tryz.ntmps120
  go_wp2_with (go_at_call 90; rw [hW1.out]; (with_reducible refine hs.out.mono ?_); rintro e w2 ⟨rfl, hC, hO⟩)
  all_goals (first | go_end0 | refine bodyPost_ret (results_none rfl _ _ _) rfl ?_)
  all_goals exact ⟨rfl, h.go hC ((Only.of_below hb1).trans hO), (Only.of_below hb1).trans hO⟩
/-- a decimal digit -/
def dgB (x : UInt8) : Bool := (isS [100, 105, 103, 105, 116] (x.toNat : Int)).1
set_option maxHeartbeats 2000000 in
set_option maxRecDepth 100000 in
theorem pdigit_any {w : World} {p g : Nat} {ba : Option Addr} {c : Nat} {s : List UInt8} {k : Nat} {rest : List Value} (h : PaAt w p g ba c s k rest) :
    Calls Tryz.prog 144 #[.pointer (some ⟨p, 0, none⟩)] w fun e w' => e = .returned (.bool (dgB (pkB s k))) ∧ Below w.heap.size w w' := by
  have c0 : w.cell? ⟨p, 0, none⟩ = some (.pointer (some ⟨g, 0, none⟩)) := h.pa.cell 0
  have hp := peek_any h.cu
  unfold dgB
  have hi := fun W => is_any ⟨#[100, 105, 103, 105, 116]⟩ ((pkB s k).toNat : Int) ⟨by omega, by have := (pkB s k).toNat_lt; omega⟩ W
  rw [show (⟨#[100, 105, 103, 105, 116]⟩ : ByteArray).toList = [100, 105, 103, 105, 116] from by decide +kernel] at hi
  generalize isS [100, 105, 103, 105, 116] ((pkB s k).toNat : Int) = B at *
  generalize pkB s k = y at *
  generalize decide (k < s.length) = D at *
  obtain ⟨B1, B2⟩ := B
  clear h
  replace hp := Lib.hid hp
  replace hi := Lib.hid hi
  go_enter Tryz.func144, Tryz.ntmps144
  go_wp2_with (first
    | (go_at_call 142; (with_reducible refine hp.out.mono ?_); rintro e w2 ⟨rfl, hb⟩)
    | (go_at_call 163; (with_reducible refine (hi.out _).mono ?_); rintro e w3 ⟨rfl, rfl⟩))
  all_goals go_ret
  all_goals exact ⟨rfl, hb⟩
end Go.Proofs.YtepdfkgadigafaaGreatDoor
