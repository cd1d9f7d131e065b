/-
  The cursor of package scan: Peek, Next, At, while, Skip; of chapter 16.
  Conditions: as each theorem states them.
-/
import Derived.Test.YtepdfkgadigafaaGreatDoorMem
import Derived.Test.YtepdfkgadigafaaGreatDoorProg
import Derived.StillTailTactics
import Derived.Deep.LoopGhost
import Derived.Deep.CutBlock
namespace Go.Proofs.YtepdfkgadigafaaGreatDoor
open Go.RowKit
set_option linter.unusedVariables false
set_option linter.unusedSimpArgs false
/-- a cursor at block g over a text, at a place -/
structure CuAt (w : World) (g : Nat) (ba : Option Addr) (c : Nat) (s : List UInt8) (k : Nat) : Prop where
  cu : Blk w g 191 [.slice ba s.length c, .int .i64 (k : Int)]
  by_ : BytesAt w ba s
  ne : ∀ b o, ba = some ⟨b, o, none⟩ → b ≠ g
  le : k ≤ s.length
  len : s.length ≤ 100000
  cap : s.length ≤ c
theorem CuAt.below {w w' : World} {g : Nat} {ba : Option Addr} {c : Nat} {s : List UInt8} {k : Nat} (h : CuAt w g ba c s k) (hb : Below w.heap.size w w') : CuAt w' g ba c s k :=
  ⟨h.cu.below hb, h.by_.below hb, h.ne, h.le, h.len, h.cap⟩
/-- the byte at a place, or none -/
def pkB (s : List UInt8) (k : Nat) : UInt8 := s.getD k 0
theorem pkB_lt {s : List UInt8} {k : Nat} (h : k < s.length) : pkB s k = s[k] := by simp [pkB, List.getD, h]
theorem pkB_ge {s : List UInt8} {k : Nat} (h : s.length ≤ k) : pkB s k = 0 := by simp [pkB, List.getD, h]
set_option maxHeartbeats 2000000 in
set_option maxRecDepth 100000 in
theorem peek_any {w : World} {g : Nat} {ba : Option Addr} {c : Nat} {s : List UInt8} {k : Nat} (h : CuAt w g ba c s k) :
    Calls Tryz.prog 142 #[.pointer (some ⟨g, 0, none⟩)] w fun e w' => e = .returned (.tuple #[.int .u8 ((pkB s k).toNat : Int), .bool (decide (k < s.length))]) ∧ Below w.heap.size w w' := by
  have c0 : w.cell? ⟨g, 0, none⟩ = some (.slice ba s.length c) := h.cu.cell 0
  have c1 : w.cell? ⟨g, 1, none⟩ = some (.int .i64 (k : Int)) := h.cu.cell 1
  have hl := h.len
  by_cases hk : k < s.length
  · obtain ⟨b, o, rfl, hb, hr⟩ := h.by_ (by omega)
    have hc := hr k hk
    rw [pkB_lt hk, decide_eq_true hk]
    have q : ((k : Int) == s.length) = false := by simp; omega
    have q1 : (k : Int) < (s.length : Int) := by omega
    generalize s[k] = x at *
    have d0 : w.drew.cell? ⟨g, 0, none⟩ = some (.slice (some ⟨b, o, none⟩) s.length c) := c0
    have d1 : w.drew.cell? ⟨g, 1, none⟩ = some (.int .i64 (k : Int)) := c1
    have dc : w.drew.cell? ⟨b, o + k, none⟩ = some (.int .u8 (x.toNat : Int)) := hc
    clear h hr
    go_enter Tryz.func142, Tryz.ntmps142
    go_upto_region 1 with fail
    refine wp_region_still_lit (by kernel_rfl) (by kernel_rfl) ?_
    repeat still_step
    refine wpStill_nil ?_
    go_upto_region 3 with fail
    change Code.wp _ _ _ _ w.drew
    obtain ⟨w1, hw1⟩ : ∃ x, w.drew = x := ⟨_, rfl⟩
    have hb1 : Below w.heap.size w w1 := by rw [← hw1]; exact bl_drew (Below.refl _ _)
    rw [hw1] at d0 d1 dc ⊢
    clear hw1 c0 c1 hc
    refine wp_region_still_lit (by kernel_rfl) (by kernel_rfl) ?_
    repeat still_step
    refine wpStill_nil ?_
    go_wp2_with fail
    all_goals go_ret2
    all_goals exact ⟨rfl, bl_drew hb1⟩
  · obtain rfl : k = s.length := by have := h.le; omega
    rw [pkB_ge (Nat.le_refl _), decide_eq_false (by omega)]
    have q : ((s.length : Int) == s.length) = true := by simp
    clear h
    go_enter Tryz.func142, Tryz.ntmps142
    go_upto_region 1 with fail
    refine wp_region_still_lit (by kernel_rfl) (by kernel_rfl) ?_
    repeat still_step
    refine wpStill_nil ?_
    go_wp2_with fail
    all_goals go_ret2
    all_goals exact ⟨rfl, bl_drew (Below.refl _ _)⟩
theorem at_any {w : World} {g : Nat} {ba : Option Addr} {c : Nat} {s : List UInt8} {k : Nat} (h : CuAt w g ba c s k) :
    Calls Tryz.prog 91 #[.pointer (some ⟨g, 0, none⟩)] w fun e w' => e = .returned (.int .i64 (k : Int)) ∧ w' = w := by
  have c1 : w.cell? ⟨g, 1, none⟩ = some (.int .i64 (k : Int)) := h.cu.cell 1
  clear h
  go_enter Tryz.func91, Tryz.ntmps91
  go_wp2_with fail
  all_goals go_ret
  all_goals exact ⟨rfl, rfl⟩
/-- one place on -/
theorem CuAt.step {w : World} {g : Nat} {ba : Option Addr} {c : Nat} {s : List UInt8} {k : Nat} (h : CuAt w g ba c s k) {j : Nat} (hj : j ≤ s.length) : CuAt (w.setCell ⟨g, 1, none⟩ (.int .i64 (j : Int))) g ba c s j :=
  ⟨h.cu.set 1 _, fun h0 => by
    obtain ⟨b, o, e, hb, hr⟩ := h.by_ h0
    refine ⟨b, o, e, by simpa using hb, fun i hi => ?_⟩
    rw [World.cell?_of_block (a := ⟨b, o + i, none⟩) (Below.heap_setCell _ _ _ _ (h.ne b o e))]
    exact hr i hi, h.ne, hj, h.len, h.cap⟩
set_option maxHeartbeats 2000000 in
set_option maxRecDepth 100000 in
theorem nextc_any {w : World} {g : Nat} {ba : Option Addr} {c : Nat} {s : List UInt8} {k : Nat} (h : CuAt w g ba c s k) :
    Calls Tryz.prog 121 #[.pointer (some ⟨g, 0, none⟩)] w fun e w' => e = .returned (.tuple #[.int .u8 ((pkB s k).toNat : Int), .bool (decide (k < s.length))]) ∧ CuAt w' g ba c s (if k < s.length then k + 1 else k) ∧ Only (fun j => j = g) w w' := by
  have hp := Lib.hid (peek_any h)
  have hB := Lib.hid (fun w' (hb : Below w.heap.size w w') => h.below hb)
  have hln := h.len
  by_cases hk : k < s.length
  · rw [decide_eq_true hk] at hp ⊢
    rw [if_pos hk]
    generalize pkB s k = x at *
    go_enter Tryz.func121, Tryz.ntmps121
    go_wp2_with (go_at_call 142; (with_reducible refine hp.out.mono ?_); rintro e w2 ⟨rfl, hb⟩; have c1 : w2.cell? ⟨g, 1, none⟩ = some (.int .i64 (k : Int)) := (hB.out _ hb).cu.cell 1; have ff := (hB.out _ hb).cu.free; have ll := (hB.out _ hb).cu.lt)
    all_goals go_ret2
    all_goals exact ⟨rfl, by have := (hB.out _ hb).step (j := k + 1) (by omega); simpa using this, (Only.of_below (S := fun j => j = g) hb).setCell (p := ⟨g, 1, none⟩) rfl _⟩
  · rw [decide_eq_false hk] at hp ⊢
    rw [if_neg hk]
    generalize pkB s k = x at *
    go_enter Tryz.func121, Tryz.ntmps121
    go_wp2_with (go_at_call 142; (with_reducible refine hp.out.mono ?_); rintro e w2 ⟨rfl, hb⟩)
    all_goals go_ret2
    all_goals exact ⟨rfl, hB.out _ hb, Only.of_below hb⟩
end Go.Proofs.YtepdfkgadigafaaGreatDoor
