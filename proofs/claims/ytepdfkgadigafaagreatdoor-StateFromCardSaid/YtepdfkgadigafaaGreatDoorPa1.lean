/-
  parse.parser: fail, end, an address that is not there, a command without arguments; of chapter 16.
  Conditions: as each theorem states them.
-/
import Derived.Test.YtepdfkgadigafaaGreatDoorPa0
namespace Go.Proofs.YtepdfkgadigafaaGreatDoor
open Go.RowKit
set_option linter.unusedVariables false
set_option linter.unusedSimpArgs false
/-- what a parser gives up by -/
def brk (a e : Int) : PanicEntry := { v := .iface 155 (.agg #[.int .i64 a, .int .i64 e]), recovered := false }
theorem pfail_any (v : Value) (a e : Int) (w : World) : Calls Tryz.prog 93 #[v, .int .i64 a, .int .i64 e] w fun q w' => q = .panicked [brk a e] ∧ w = w' := by
  go_enter Tryz.func93, Tryz.ntmps93
  go_wp2_with fail
  exact ⟨rfl, rfl, rfl⟩
/-- may a command end there? -/
def endB (s : List UInt8) (k : Nat) : Bool := !(decide (k < s.length)) || pkB s k == 10 || pkB s k == 59 || pkB s k == 125 || pkB s k == 35
theorem int_bne (a : UInt8) (n : Int) (b : Bool) (h : ((a.toNat : Int) == n) = b) : ((a.toNat : Int) != n) = !b := by simp only [bne, h]
set_option maxHeartbeats 2000000 in
set_option maxRecDepth 100000 in
theorem pend_ok {w : World} {p g : Nat} {ba : Option Addr} {c : Nat} {s : List UInt8} {k j : Nat} {rest : List Value} (h : PaAt w p g ba c s k rest) (hj : runTo (oneOf blk2) s k = j) (he : endB s j = true) :
    Calls Tryz.prog 123 #[.pointer (some ⟨p, 0, none⟩)] w fun e w' => e = .returned (.tuple #[]) ∧ PaAt w' p g ba c s j rest ∧ Only (fun i => i = g) w w' := by
  have hbl := pblanks_any h
  rw [hj] at hbl
  have hpk := fun X (hX : PaAt X p g ba c s j rest) => peek_any hX.cu
  unfold endB at he
  obtain ⟨B1, e1⟩ : ∃ B, (pkB s j == 10) = B := ⟨_, rfl⟩
  obtain ⟨B2, e2⟩ : ∃ B, (pkB s j == 59) = B := ⟨_, rfl⟩
  obtain ⟨B3, e3⟩ : ∃ B, (pkB s j == 125) = B := ⟨_, rfl⟩
  obtain ⟨B4, e4⟩ : ∃ B, (pkB s j == 35) = B := ⟨_, rfl⟩
  have q1 := int_bne (pkB s j) 10 B1 ((byte_beq (pkB s j) 10).trans e1)
  have q2 := int_bne (pkB s j) 59 B2 ((byte_beq (pkB s j) 59).trans e2)
  have q3 := int_bne (pkB s j) 125 B3 ((byte_beq (pkB s j) 125).trans e3)
  have q4 := int_bne (pkB s j) 35 B4 ((byte_beq (pkB s j) 35).trans e4)
  rw [e1, e2, e3, e4] at he
  generalize pkB s j = y at *
  generalize decide (j < s.length) = D at *
  clear h hj e1 e2 e3 e4
  replace hbl := Lib.hid hbl
  replace hpk := Lib.hid hpk
  cases D <;> cases B1 <;> cases B2 <;> cases B3 <;> cases B4
  all_goals (first | (exact absurd he (by decide)) | skip)
  all_goals
    simp only [Bool.not_true, Bool.not_false] at q1 q2 q3 q4
    clear he
    go_enter Tryz.func123, Tryz.ntmps123
    go_wp2_with (first
      | (go_at_call 120; (with_reducible refine hbl.out.mono ?_); rintro e w2 ⟨rfl, hP2, hO2⟩; have c0 : w2.cell? ⟨p, 0, none⟩ = some (.pointer (some ⟨g, 0, none⟩)) := hP2.pa.cell 0; have hpk2 := Lib.hid (hpk.out _ hP2); replace hP2 := Lib.hid hP2; replace hO2 := Lib.hid hO2)
      | (go_at_call 142; (with_reducible refine hpk2.out.mono ?_); rintro e w3 ⟨rfl, hb⟩))
    all_goals (first | go_end0 | refine bodyPost_ret (results_none rfl _ _ _) rfl ?_)
    all_goals exact ⟨rfl, hP2.out.below hb, hO2.out.trans (Only.of_below hb)⟩
set_option maxHeartbeats 2000000 in
set_option maxRecDepth 100000 in
theorem paddr_no {w : World} {p g : Nat} {ba : Option Addr} {c : Nat} {s : List UInt8} {k : Nat} {rest : List Value} (h : PaAt w p g ba c s k rest) (h1 : dgB (pkB s k) = false) (h2 : isB s k 36 = false) (h3 : isB s k 92 = false) (h4 : isB s k 47 = false) :
    Calls Tryz.prog 119 #[.pointer (some ⟨p, 0, none⟩)] w fun e w' => e = .returned (.tuple #[.agg #[.int .i64 0, .int .i64 0, .int .i64 0], .bool false]) ∧ Below w.heap.size w w' := by
  have hd := fun X (hX : Below w.heap.size w X) => pdigit_any (h.below hX)
  have i1 := fun X (hX : Below w.heap.size w X) => pis_lit (h.below hX) 36 36 rfl _ h2
  have i2 := fun X (hX : Below w.heap.size w X) => pis_lit (h.below hX) 92 92 rfl _ h3
  have i3 := fun X (hX : Below w.heap.size w X) => pis_lit (h.below hX) 47 47 rfl _ h4
  rw [h1] at hd
  clear h h1 h2 h3 h4
  have hd1 := Lib.hid (hd _ (bl_alloc (Below.refl _ _) (.cells #[.int .i64 0, .int .i64 0, .int .i64 0] 165)))
  replace i1 := Lib.hid i1
  replace i2 := Lib.hid i2
  replace i3 := Lib.hid i3
  have hb0 := Lib.hid (bl_alloc (Below.refl w.heap.size w) (.cells #[.int .i64 0, .int .i64 0, .int .i64 0] 165))
  have hBk := Lib.hid (Blk.new w 165 [.int .i64 0, .int .i64 0, .int .i64 0])
  obtain ⟨W1, hW1⟩ : ∃ X, w.alloc (.cells #[.int .i64 0, .int .i64 0, .int .i64 0] 165) = X := ⟨_, rfl⟩
  rw [hW1] at hd1 hb0 hBk
  clear hd
  replace hW1 := Lib.hid hW1
  go_enter Tryz.func119, Tryz.ntmps119
  go_upto_region 1 with fail
  rw [hW1.out]
  go_wp2_with (first
    | (go_at_call 144; (with_reducible refine hd1.out.mono ?_); rintro e w2 ⟨rfl, hb2⟩; replace hBk := Lib.hid (hBk.out.below hb2); replace hb2 := Lib.hid (bl_trans hb0.out hb2); have j1 := Lib.hid (i1.out _ hb2.out))
    | (go_at_call 117; (with_reducible refine j1.out.mono ?_); rintro e w3 ⟨rfl, hb3⟩; replace hBk := Lib.hid (hBk.out.below hb3); replace hb3 := Lib.hid (bl_trans hb2.out hb3); have j2 := Lib.hid (i2.out _ hb3.out))
    | (go_at_call 117; (with_reducible refine j2.out.mono ?_); rintro e w4 ⟨rfl, hb4⟩; replace hBk := Lib.hid (hBk.out.below hb4); replace hb4 := Lib.hid (bl_trans hb3.out hb4); have j3 := Lib.hid (i3.out _ hb4.out))
    | (go_at_call 117; (with_reducible refine j3.out.mono ?_); rintro e w5 ⟨rfl, hb5⟩; replace hBk := hBk.out.below hb5; replace hb5 := Lib.hid (bl_trans hb4.out hb5); have c0 : w5.cell? ⟨w.heap.size, 0, none⟩ = some (.int .i64 0) := hBk.cell 0; have c1 : w5.cell? ⟨w.heap.size, 1, none⟩ = some (.int .i64 0) := hBk.cell 1; have c2 : w5.cell? ⟨w.heap.size, 2, none⟩ = some (.int .i64 0) := hBk.cell 2; have f0 := hBk.free 0; have f1 := hBk.free 1; have f2 := hBk.free 2; have ll := hBk.lt; clear hBk))
  exact bodyPost_ret (v := .tuple #[.agg #[.int .i64 0, .int .i64 0, .int .i64 0], .bool false]) (by simp [results, Tryz.results119, go_sem, c0, c1, c2, f0, f1, f2, ll]) rfl ⟨rfl, bl_setCell (bl_setCell (bl_setCell hb5.out (Nat.le_refl _) _) (Nat.le_refl _) _) (Nat.le_refl _) _⟩
/-- commands that have arguments -/
abbrev argK : List UInt8 := [123, 125, 58, 98, 116, 97, 99, 105, 108, 113, 114, 119, 115, 121]
set_option maxHeartbeats 2000000 in
set_option maxRecDepth 100000 in
theorem parg_none {w : World} {q : Value} {cb : Nat} {x : UInt8} (hc : w.cell? ⟨cb, 7, none⟩ = some (.int .u8 (x.toNat : Int))) (hx : ∀ n : UInt8, n ∈ argK → (x == n) = false) :
    Calls Tryz.prog 122 #[q, .pointer (some ⟨cb, 0, none⟩)] w fun e w' => e = .returned (.bool false) ∧ w' = w := by
  have q123 : ((x.toNat : Int) == 123) = false := by rw [show (123 : Int) = ((123 : UInt8).toNat : Int) from rfl, byte_beq]; exact hx 123 (by decide)
  have q125 : ((x.toNat : Int) == 125) = false := by rw [show (125 : Int) = ((125 : UInt8).toNat : Int) from rfl, byte_beq]; exact hx 125 (by decide)
  have q58 : ((x.toNat : Int) == 58) = false := by rw [show (58 : Int) = ((58 : UInt8).toNat : Int) from rfl, byte_beq]; exact hx 58 (by decide)
  have q98 : ((x.toNat : Int) == 98) = false := by rw [show (98 : Int) = ((98 : UInt8).toNat : Int) from rfl, byte_beq]; exact hx 98 (by decide)
  have q116 : ((x.toNat : Int) == 116) = false := by rw [show (116 : Int) = ((116 : UInt8).toNat : Int) from rfl, byte_beq]; exact hx 116 (by decide)
  have q97 : ((x.toNat : Int) == 97) = false := by rw [show (97 : Int) = ((97 : UInt8).toNat : Int) from rfl, byte_beq]; exact hx 97 (by decide)
  have q99 : ((x.toNat : Int) == 99) = false := by rw [show (99 : Int) = ((99 : UInt8).toNat : Int) from rfl, byte_beq]; exact hx 99 (by decide)
  have q105 : ((x.toNat : Int) == 105) = false := by rw [show (105 : Int) = ((105 : UInt8).toNat : Int) from rfl, byte_beq]; exact hx 105 (by decide)
  have q108 : ((x.toNat : Int) == 108) = false := by rw [show (108 : Int) = ((108 : UInt8).toNat : Int) from rfl, byte_beq]; exact hx 108 (by decide)
  have q113 : ((x.toNat : Int) == 113) = false := by rw [show (113 : Int) = ((113 : UInt8).toNat : Int) from rfl, byte_beq]; exact hx 113 (by decide)
  have q114 : ((x.toNat : Int) == 114) = false := by rw [show (114 : Int) = ((114 : UInt8).toNat : Int) from rfl, byte_beq]; exact hx 114 (by decide)
  have q119 : ((x.toNat : Int) == 119) = false := by rw [show (119 : Int) = ((119 : UInt8).toNat : Int) from rfl, byte_beq]; exact hx 119 (by decide)
  have q115 : ((x.toNat : Int) == 115) = false := by rw [show (115 : Int) = ((115 : UInt8).toNat : Int) from rfl, byte_beq]; exact hx 115 (by decide)
  have q121 : ((x.toNat : Int) == 121) = false := by rw [show (121 : Int) = ((121 : UInt8).toNat : Int) from rfl, byte_beq]; exact hx 121 (by decide)
  clear hx
  generalize (x.toNat : Int) = X at *
  go_enter Tryz.func122, Tryz.ntmps122
  go_wp2_with fail
  all_goals go_ret
  all_goals exact ⟨rfl, rfl⟩
end Go.Proofs.YtepdfkgadigafaaGreatDoor
