/-
  Contracts of Select over two regular expressions, and the walk of the law AddrFinds: it returns true and changes nothing that was there.
  Conditions: as each theorem states them; none beyond.
-/
import Derived.Test.YtfbimghnimepjaaA7
import Derived.Test.YtfbimghnimepjaaA8
import Derived.Deep.RegionWith
namespace Go.Proofs.Ytfbimghnimepjaa
open Go.RowKit
set_option linter.unusedVariables false
theorem AfterAsk.later {w w1 w2 : World} {b : Nat} {re : Int} (h : AfterAsk w w1 b re) (k : Below w1.heap.size w1 w2) : AfterAsk w w2 b re := by
  have hb : b < w1.heap.size := World.block_lt_of_cell? w1 _ h.c3
  exact ⟨h.below.trans (k.mono (Nat.le_of_lt hb)), ⟨k.os.trans h.grown.os, k.tape.trans h.grown.tape, k.output.trans h.grown.output, Nat.le_trans h.grown.size k.size, fun i hi hne => (k.block i (Nat.lt_of_lt_of_le hi h.grown.size)).trans (h.grown.block i hi hne)⟩,
    (k.cell (p := ⟨b, 3, none⟩) hb).trans h.c3, (k.cell (p := ⟨b, 4, none⟩) hb).trans h.c4⟩
set_option maxHeartbeats 2000000 in
set_option maxRecDepth 100000 in
theorem sel_ask_on (b : Nat) (line : Int) (last f1 : Bool) (w : World) (hb : b < w.heap.size)
    (h : ∀ W, Below w.heap.size w W → Calls Try.prog 56 #[.pointer (some ⟨b, 0, none⟩), .int .i64 1] W fun en w' => en = .returned (.tuple #[.bool f1, .int .i64 0]) ∧ AfterAsk W w' b 1) :
    Calls Try.prog 18 #[.agg #[.int .i64 3, .int .i64 0, .int .i64 0], .agg #[.int .i64 3, .int .i64 0, .int .i64 1], .bool true, .agg #[.int .i64 line, .bool last, .func (.func 56) #[.pointer (some ⟨b, 0, none⟩)] #[]]] w
      fun en w' => en = .returned (.tuple #[.bool true, .bool (!f1), .int .i64 0]) ∧ AfterAsk w w' b 1 := by
  have H := Lib.hid h
  clear h
  go_enter Try.func18, Try.ntmps18
  go_wp2_with (first | (go_at_call 55; refine (lfind_any b line 1 last f1 0 _ (fun w' => AfterAsk w w' b 1) (.inl rfl) ((H.out _ ?_).mono ?_)).mono ?_) | go_in)
  · repeat (first | (with_reducible exact Below.refl _ _) | (with_reducible refine bl_alloc ?_ _))
  · rintro e' w1 ⟨rfl, h1⟩
    exact ⟨rfl, h1.ahead hb (by repeat (first | (with_reducible exact Below.refl _ _) | (with_reducible refine bl_alloc ?_ _)))⟩
  · rintro e' w1 ⟨rfl, h1⟩
    go_wp2
    all_goals go_ret3
    all_goals exact ⟨ret_bbe rfl (by simp) rfl, h1⟩
set_option maxHeartbeats 2000000 in
set_option maxRecDepth 100000 in
theorem sel_ask_off (b : Nat) (line : Int) (last f0 : Bool) (w : World) (hb : b < w.heap.size)
    (h : ∀ W, Below w.heap.size w W → Calls Try.prog 56 #[.pointer (some ⟨b, 0, none⟩), .int .i64 0] W fun en w' => en = .returned (.tuple #[.bool f0, .int .i64 0]) ∧ AfterAsk W w' b 0) :
    Calls Try.prog 18 #[.agg #[.int .i64 3, .int .i64 0, .int .i64 0], .agg #[.int .i64 3, .int .i64 0, .int .i64 1], .bool false, .agg #[.int .i64 line, .bool last, .func (.func 56) #[.pointer (some ⟨b, 0, none⟩)] #[]]] w
      fun en w' => en = .returned (.tuple #[.bool f0, .bool f0, .int .i64 0]) ∧ AfterAsk w w' b 0 := by
  have H := Lib.hid h
  clear h
  go_enter Try.func18, Try.ntmps18
  go_wp2_with (first | (go_at_call 15; refine (holds_ask b _ line 0 last f0 0 _ (.inl rfl) ?_ (fun W hW => (H.out _ ?_))).mono ?_) | go_in)
  · simp only [World.size_alloc]; omega
  · exact bl_trans (by repeat (first | (with_reducible exact Below.refl _ _) | (with_reducible refine bl_alloc ?_ _))) hW
  · rintro e' w1 ⟨rfl, h1⟩
    have hcell : ∀ i o, Kept w.heap.size b → i ≠ b → Kept (w.heap.size + 4) i → w1.cell? ⟨i, o, none⟩ = _ := fun i o _ hne hi => World.cell?_of_block (h1.grown.block i (by unfold Kept at hi; simp only [World.size_alloc]; omega) (fun e => hne (Option.some.inj e)))
    have h1 := h1.ahead hb (by repeat (first | (with_reducible exact Below.refl _ _) | (with_reducible refine bl_alloc ?_ _)))
    have kb : Kept w.heap.size b := hb
    have k0 : Kept (w.heap.size + 4) w.heap.size := kept (by omega)
    have k1 : Kept (w.heap.size + 4) (w.heap.size + 1) := kept (by omega)
    have k2 : Kept (w.heap.size + 4) (w.heap.size + 1 + 1) := kept (by omega)
    have n0 : w.heap.size ≠ b := by omega
    have n1 : w.heap.size + 1 ≠ b := by omega
    have n2 : w.heap.size + 1 + 1 ≠ b := by omega
    cases f0
    · go_wp2
      go_ret3
      exact ⟨rfl, h1⟩
    · go_wp2
      all_goals go_ret3
      all_goals exact ⟨rfl, h1.later (by repeat (first | (with_reducible exact Below.refl _ _) | (with_reducible refine bl_alloc ?_ _)))⟩
set_option maxHeartbeats 4000000 in
set_option maxRecDepth 100000 in
theorem finds_walk (a b : Option Addr) (n ca cb : Nat) (xs ys : List Bool) (w : World) (hx : xs.length = n) (hy : ys.length = n) (hn : n ≤ 60)
    (ha : 0 < n → ∃ p o, a = some ⟨p, o, none⟩ ∧ p < w.heap.size ∧ ∀ i (h : i < xs.length), w.cell? ⟨p, o + i, none⟩ = some (.bool xs[i]))
    (hb : 0 < n → ∃ p o, b = some ⟨p, o, none⟩ ∧ p < w.heap.size ∧ ∀ i (h : i < ys.length), w.cell? ⟨p, o + i, none⟩ = some (.bool ys[i])) :
    Calls Try.prog 5 #[.slice a n ca, .slice b n cb] w fun e w' => e = .returned (.bool true) ∧ Below w.heap.size w w' := by
  have ha := Lib.hid ha
  have hb := Lib.hid hb
  have hx := Lib.hid hx
  have hy := Lib.hid hy
  go_enter Try.func5, Try.ntmps5
  go_wp2_with fail
  go_loopw [7, 8, 9] (fun on i_n i wr => ∃ (k : Nat) (c : Bool), k ≤ n ∧ i = .int .i64 k ∧ on = .bool c ∧ i_n = .bool c ∧ Below w.heap.size w wr ∧ Box3 wr w.heap.size 3 0 0 ∧ Box3 wr (w.heap.size + 1) 3 0 1 ∧ w.heap.size + 1 < wr.heap.size) (fun _ _ i _ => (n - intOf i).toNat)
  case atStart =>
    refine ⟨0, false, by omega, rfl, rfl, rfl, bl_alloc (bl_alloc (Below.refl _ _) _) _, ?_, ?_, ?_⟩
    · refine ⟨?_, ?_, ?_⟩ <;> go_simp
    · refine ⟨?_, ?_, ?_⟩ <;> go_simp
    · simp
  case round =>
    obtain ⟨k, c, hk, rfl, rfl, rfl, hbl, hb1, hb2, hsz⟩ := hrel
    have hb1x := hb1
    have hb1x' := hb1
    have hb2x' := hb2
    have hb2x := hb2
    obtain ⟨q1, q2, q3⟩ := hb1x
    obtain ⟨p1, p2, p3⟩ := hb2x
    by_cases hlt : k < n
    · obtain ⟨pa, oa, rfl, hpa, hca⟩ := ha.out (by omega)
      obtain ⟨pb, ob, rfl, hpb, hcb⟩ := hb.out (by omega)
      have ca1 := (hbl.cell (p := ⟨pa, oa + k, none⟩) hpa).trans (hca k (by rw [hx.out]; exact hlt))
      have cb1 := (hbl.cell (p := ⟨pb, ob + k, none⟩) hpb).trans (hcb k (by rw [hy.out]; exact hlt))
      generalize xs[k]'(by rw [hx.out]; exact hlt) = x at ca1
      generalize ys[k]'(by rw [hy.out]; exact hlt) = y at cb1
      clear hca hcb
      go_wp2_with fail
      go_region
      have hs0 : w.heap.size < wr.heap.size := by omega
      have hs1 : w.heap.size < wr.heap.size + 1 := by omega
      have hs2 : w.heap.size + 1 < wr.heap.size + 1 := by omega
      go_wp2_with fail
      cases c
      · go_region_with (first | (go_at_call 16; refine (look_any _ (↑k + 1) false _ (by go_simp) (by go_simp)).mono ?_; rintro e w1 ⟨rfl, hb1⟩; obtain ⟨N, hN, F1⟩ := From.mk1 hb1; have k2 : Kept N (wr.heap.size + 1) := kept (by simp at hN; omega); have kg : Kept N wr.heap.size := kept (by simp at hN; omega); have k0 : Kept N w.heap.size := kept (by simp at hN; omega); have k1 : Kept N (w.heap.size + 1) := kept (by simp at hN; omega); have hN := Lib.hid hN; have hr1 := (bl_trans (a := wr) (by repeat (first | (with_reducible exact Below.refl _ _) | (with_reducible refine bl_alloc ?_ _) | (with_reducible refine bl_drew ?_))) hb1); have R1 := F1.rules) | (go_at_call 18; refine (sel_ask_off (wr.heap.size + 1) (↑k + 1) false x _ (Nat.lt_of_lt_of_le k2 F1.size) (fun W hW => find_in (wr.heap.size + 1) (↑k + 1) false wr.heap.size 0 2 2 0 0 x W (Asked.from (Asked.mk (by go_simp) (by go_simp) (by go_simp) (by go_simp) (by go_simp) (by intro o; go_simp)) hW (Nat.lt_of_lt_of_le k2 F1.size)) (by omega) ((hW.cell (p := ⟨wr.heap.size, 0 + 0, none⟩) (Nat.lt_of_lt_of_le kg F1.size)).trans (by go_simp)) (by omega))).mono ?_; rintro e w2 ⟨rfl, ha2⟩))
        all_goals
          have hrb : Below wr.heap.size wr w2 := hr1.trans (ha2.below.mono (by omega))
          have ca2 := (hrb.cell (p := ⟨pa, oa + k, none⟩) (Nat.lt_of_lt_of_le hpa hbl.size)).trans ca1
          have cb2 := (hrb.cell (p := ⟨pb, ob + k, none⟩) (Nat.lt_of_lt_of_le hpb hbl.size)).trans cb1
          clear R1 k0 k1 k2 kg
          cases x <;> cases y
          all_goals go_wp2_with fail
          all_goals go_roundw
          all_goals first | (simp [intOf]; omega) | exact ⟨k + 1, _, by omega, by go_num, rfl, rfl, bl_trans hbl hrb, hb1x'.below hrb hs0, hb2x'.below hrb hsz, Nat.lt_of_lt_of_le hsz hrb.size⟩
      · go_region_with (first | (go_at_call 16; refine (look_any _ (↑k + 1) false _ (by go_simp) (by go_simp)).mono ?_; rintro e w1 ⟨rfl, hb1⟩; obtain ⟨N, hN, F1⟩ := From.mk1 hb1; have k2 : Kept N (wr.heap.size + 1) := kept (by simp at hN; omega); have kg : Kept N wr.heap.size := kept (by simp at hN; omega); have k0 : Kept N w.heap.size := kept (by simp at hN; omega); have k1 : Kept N (w.heap.size + 1) := kept (by simp at hN; omega); have hN := Lib.hid hN; have hr1 := (bl_trans (a := wr) (by repeat (first | (with_reducible exact Below.refl _ _) | (with_reducible refine bl_alloc ?_ _) | (with_reducible refine bl_drew ?_))) hb1); have R1 := F1.rules) | (go_at_call 18; refine (sel_ask_on (wr.heap.size + 1) (↑k + 1) false y _ (Nat.lt_of_lt_of_le k2 F1.size) (fun W hW => find_in (wr.heap.size + 1) (↑k + 1) false wr.heap.size 0 2 2 0 1 y W (Asked.from (Asked.mk (by go_simp) (by go_simp) (by go_simp) (by go_simp) (by go_simp) (by intro o; go_simp)) hW (Nat.lt_of_lt_of_le k2 F1.size)) (by omega) ((hW.cell (p := ⟨wr.heap.size, 0 + 1, none⟩) (Nat.lt_of_lt_of_le kg F1.size)).trans (by go_simp)) (by omega))).mono ?_; rintro e w2 ⟨rfl, ha2⟩))
        all_goals
          have hrb : Below wr.heap.size wr w2 := hr1.trans (ha2.below.mono (by omega))
          have ca2 := (hrb.cell (p := ⟨pa, oa + k, none⟩) (Nat.lt_of_lt_of_le hpa hbl.size)).trans ca1
          have cb2 := (hrb.cell (p := ⟨pb, ob + k, none⟩) (Nat.lt_of_lt_of_le hpb hbl.size)).trans cb1
          clear R1 k0 k1 k2 kg
          cases x <;> cases y
          all_goals go_wp2_with fail
          all_goals go_roundw
          all_goals first | (simp [intOf]; omega) | exact ⟨k + 1, _, by omega, by go_num, rfl, rfl, bl_trans hbl hrb, hb1x'.below hrb hs0, hb2x'.below hrb hsz, Nat.lt_of_lt_of_le hsz hrb.size⟩
    · go_wp2_with (go_at_call 14; refine (awake_any _).mono ?_; rintro e w1 ⟨rfl, hb4⟩)
      go_ret
      exact ⟨rfl, bl_trans hbl hb4⟩
end Go.Proofs.Ytfbimghnimepjaa
