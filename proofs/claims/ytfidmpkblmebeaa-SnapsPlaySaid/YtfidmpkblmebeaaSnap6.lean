/-
  Snaps: Ahead, Behind at nil; of chapter 25.
  Conditions: as each theorem states them.
-/
import Derived.Test.YtfidmpkblmebeaaSnap5
namespace Go.Proofs.Ytfidmpkblmebeaa
open Go.RowKit
set_option linter.unusedVariables false
set_option linter.unusedSimpArgs false
attribute [local go_sem ↓] load_st store_st
theorem nil_num (w : World) (base : Nat) : NumAt w base (.slice none 0 0) [] := ⟨rfl, .inl ⟨rfl, rfl⟩⟩
def NoLook (w : World) (e : Ending) (w' : World) : Prop := e = .returned (.tuple #[.int .i64 0, .agg zeroC.cells.toArray, .bool false]) ∧ Below w.heap.size w w'
set_option maxHeartbeats 4000000 in
set_option maxRecDepth 100000 in
theorem behind_nil (w : World) (k : Int) : Calls Try.prog 16 #[.pointer none, .int .i64 k] w (NoLook w) := by
  have hR := Blk.new w 43 zeroC.cells
  have hb1 : Below w.heap.size w (w.alloc (.cells zeroC.cells.toArray 43)) := bl_alloc (Below.refl _ _) _
  obtain ⟨W1, hW1⟩ : ∃ W1, w.alloc (.cells zeroC.cells.toArray 43) = W1 := ⟨_, rfl⟩
  rw [hW1] at hR hb1
  replace hW1 := Lib.hid hW1
  unfold zeroC StC.cells at hW1
  have g1 := search_ints (nil_num W1 0) List.Pairwise.nil (by simp) k
  rw [show ((([] : List Int).countP fun y => decide (y < k) : Nat) : Int) = 0 from rfl] at g1
  replace g1 := Lib.hid g1
  have hst := Lib.hid (fun w4 (h : Below W1.heap.size W1 w4) => stStore_is zeroC (hR.below h) rfl)
  replace hb1 := Lib.hid hb1
  obtain ⟨C, hC⟩ : ∃ C, zeroC.cells.toArray = C := ⟨_, rfl⟩
  have g2 := fun w3 => told_no w3 (.pointer none) none 0 0 0 (.inr (Int.le_refl _))
  rw [hC] at g2 hst
  replace g2 := Lib.hid g2
  clear hR
  go_enter Try.func16, Try.ntmps16
  go_upto_region 1 with fail
  rw [hW1.out]
  go_upto_region 2 with (go_at_call 13; (with_reducible refine (numbers_nil _).mono ?_); rintro e w2 ⟨rfl, rfl⟩)
  go_wp2_with (first
    | (go_at_call 28; (with_reducible refine g1.out.mono ?_); rintro e w3 ⟨rfl, hb3⟩)
    | (go_at_call 25; (with_reducible refine (g2.out _).mono ?_); rintro e w4 ⟨rfl, hb4⟩; obtain ⟨w5, S5, hB5, hO5⟩ := hst.out w4 (bl_trans hb3 hb4); have L5 := stLoad_is zeroC hB5; rw [hC] at L5; have hfin := Lib.hid ((bl_trans hb1.out (bl_trans hb3 hb4)).trans (hO5.below (N := w.heap.size) (bl_trans hb1.out (bl_trans hb3 hb4)).size (fun i hi => by rw [hi]; exact Nat.le_refl _))); clear hB5 hO5))
  exact bodyPost_ret (v := .tuple #[.int .i64 0, .agg C, .bool false]) (by simp [results, Try.results16, ↓load_st, asAddr, L5, Result.andThen]) rfl ⟨by rw [hC], hfin.out⟩
set_option maxHeartbeats 4000000 in
set_option maxRecDepth 100000 in
theorem ahead_nil (w : World) (k : Int) : Calls Try.prog 15 #[.pointer none, .int .i64 k] w (NoLook w) := by
  have hK := (Blk.new w 3 [.int .i64 k]).alloc (.cells zeroC.cells.toArray 43)
  have hR : Blk ((w.alloc (.cells #[.int .i64 k] 3)).alloc (.cells zeroC.cells.toArray 43)) (w.heap.size + 1) 43 zeroC.cells := by
    have := Blk.new (w.alloc (.cells #[.int .i64 k] 3)) 43 zeroC.cells
    simpa using this
  have hb1 : Below w.heap.size w ((w.alloc (.cells #[.int .i64 k] 3)).alloc (.cells zeroC.cells.toArray 43)) := bl_alloc (bl_alloc (Below.refl _ _) _) _
  obtain ⟨W1, hW1⟩ : ∃ W1, (w.alloc (.cells #[.int .i64 k] 3)).alloc (.cells zeroC.cells.toArray 43) = W1 := ⟨_, rfl⟩
  rw [show ([.int .i64 k] : List Value).toArray = #[.int .i64 k] from rfl, hW1] at hK
  rw [hW1] at hR hb1
  replace hW1 := Lib.hid hW1
  unfold zeroC StC.cells at hW1
  obtain ⟨C, hC⟩ : ∃ C, zeroC.cells.toArray = C := ⟨_, rfl⟩
  have hb3 : Below W1.heap.size W1 (W1.alloc (.cells #[.slice none 0 0] 50)) := bl_alloc (Below.refl _ _) _
  have hlb := Blk.new W1 50 [.slice none 0 0]
  obtain ⟨w3, hw3⟩ : ∃ w3, W1.alloc (.cells #[.slice none 0 0] 50) = w3 := ⟨_, rfl⟩
  rw [show ([.slice none 0 0] : List Value).toArray = #[.slice none 0 0] from rfl, hw3] at hlb
  rw [hw3] at hb3
  have hK3 := hK.below hb3
  have hR3 := hR.below hb3
  have sB : Below w3.heap.size w3 w3.drew := bl_drew (Below.refl _ _)
  have g1 := search_above (w := w3.drew) (nil_num w3.drew 0) List.Pairwise.nil (by simp) k (lb := W1.heap.size) (nb := w.heap.size) ((hlb.below sB).cell 0) ((hK3.below sB).cell 0)
  rw [show ((([] : List Int).countP fun y => decide (y ≤ k) : Nat) : Int) = 0 from rfl, show ((([] : List Int).length : Nat) : Int) = 0 from rfl] at g1
  have g2 := fun X => told_no X (.pointer none) none 0 0 (-1) (.inl (by omega))
  rw [hC] at g2
  have hst := Lib.hid (fun w4 (h : Below w3.heap.size w3 w4) => stStore_is zeroC (hR3.below h) rfl)
  rw [hC] at hst
  have hwr : IntKind.i64.wrap (-1) = -1 := rfl
  obtain ⟨lb, hlbe⟩ : ∃ lb, W1.heap.size = lb := ⟨_, rfl⟩
  rw [hlbe] at hlb g1
  have hne : ¬ lb = w.heap.size + 1 := by have := hR.lt; omega
  have hkeep := Lib.hid (fun X (hO : Only (fun i => i = w.heap.size + 1) w3 X) => (⟨hO, (hlb.only hO hne).cell 0, (hlb.only hO hne).lt⟩ : Only (fun i => i = w.heap.size + 1) w3 X ∧ X.cell? ⟨lb, 0, none⟩ = some (.slice none 0 0) ∧ lb < X.heap.size))
  have sI := hkeep.out w3.drew (Only.refl _ _).drew
  have hbw := Lib.hid (bl_trans hb1 hb3)
  replace g1 := Lib.hid g1
  replace g2 := Lib.hid g2
  replace hC := Lib.hid hC
  clear hK hR hlb hK3 hR3 hb1 hb3
  replace hw3 := Lib.hid hw3
  replace hlbe := Lib.hid hlbe
  go_enter Try.func15, Try.ntmps15
  go_upto_region 1 with fail
  rw [hW1.out]
  go_upto_region 2 with (go_at_call 13; (with_reducible refine (numbers_nil _).mono ?_); rintro e w2 ⟨rfl, rfl⟩)
  rw [hw3.out, hlbe.out]
  go_region_held3 (fun X => Only (fun i => i = w.heap.size + 1) w3 X ∧ X.cell? ⟨lb, 0, none⟩ = some (.slice none 0 0) ∧ lb < X.heap.size) (first | with_reducible exact sI | with_reducible exact hI5 | with_reducible exact hI6 | with_reducible exact hI7)
    (first
      | (go_at_call 26; (with_reducible refine g1.out.mono ?_); rintro e w5 ⟨rfl, hb5⟩; have hb5' := bl_trans sB hb5; have hI5 := hkeep.out w5 (Only.of_below hb5'))
      | (go_at_call 25; (with_reducible refine (g2.out _).mono ?_); rintro e w6 ⟨rfl, hb6⟩; have hb6' := bl_trans hb5' hb6; have hI6 := hkeep.out w6 (Only.of_below hb6'); obtain ⟨w7, S7, hB7, hO7⟩ := hst.out w6 hb6'; have hI7 := hkeep.out w7 ((Only.of_below hb6').trans hO7); have L7 := stLoad_is zeroC hB7; rw [hC.out] at L7; have hfin := Lib.hid ((bl_trans hbw.out hb6').trans (hO7.below (N := w.heap.size) (bl_trans hbw.out hb6').size (fun i hi => by rw [hi]; exact Nat.le_succ _)))))
  go_wp2_with fail
  exact bodyPost_ret (v := .tuple #[.int .i64 0, .agg C, .bool false]) (by simp [results, Try.results15, ↓load_st, asAddr, L7, Result.andThen]) rfl ⟨by rw [hC.out], hfin.out⟩
end Go.Proofs.Ytfidmpkblmebeaa
