/-
  awake of chapter 28; of chapter 28.
  Conditions: as each theorem states them.
-/
import Derived.Test.YtcjcflmnghhbaaaGreatStopE
namespace Go.Proofs.YtcjcflmnghhbaaaGreat
open Go.RowKit
set_option linter.unusedVariables false
set_option linter.unusedSimpArgs false
attribute [local go_sem ↓] load_st
open CM (Sv)
/-- the state at a line -/
def zl (n : Int) : StC := { z0 with line := n }
def vl (n : Int) : Sv := { v0 with line := n }
theorem zl_sv (w : World) (n : Int) : StSv w (zl n) (vl n) := ⟨rfl, rfl, rfl, rfl, .nil w, .nil w, .nil w, .nil w, rfl, rfl, rfl, rfl, rfl, rfl⟩
noncomputable def stStore2 (a : Addr) (v : Value) : Sem Unit := storeVar 35 a v
theorem store_st2 (a : Addr) (v : Value) : storeVar 35 a v = stStore2 a v := rfl
/-- a whole state's store -/
theorem stStore2_is {w : World} {g : Nat} {old C : List Value} (h : Blk w g 35 old) (hl : old.length = 27) (hC : C.length = 27) (h1 : ∀ u ∈ C, u.oneCell' = true) :
    ∃ w', (stStore2 ⟨g, 0, none⟩ (.agg C.toArray)).run Tryz.prog w = .ok () w' ∧ Blk w' g 35 C ∧ Only (fun k => k = g) w w' := by
  have := run_storeVar_mid (P := Tryz.prog) w g 0 35 C.toArray (fun j hj => ⟨by
    rw [Nat.zero_add, h.cell, List.getElem?_eq_getElem (by simp only [List.size_toArray] at hj; omega)]; rfl, by rw [Nat.zero_add]; exact h.free _⟩) (by simp only [List.size_toArray, hC]; kernel_rfl) (all_oneCell_toArray h1)
  refine ⟨_, this, ?_, only_setCells _ 0 w⟩
  simp only
  obtain ⟨c', h2, h3, _⟩ := Blk.setCells C 0 h
  have hc : c' = C := by
    apply List.ext_getElem?
    intro i
    by_cases hi : i < 27
    · have hr := World.rangeAt_setCells_same w g 0 C (fun j hj => ⟨by
        rw [Nat.zero_add, h.cell, List.getElem?_eq_getElem (by omega)]; rfl, by rw [Nat.zero_add]; exact h.free _⟩) i _ (List.getElem?_eq_getElem (by omega))
      rw [Nat.zero_add, h2.cell] at hr
      rw [hr, List.getElem?_eq_getElem]
    · rw [List.getElem?_eq_none (by omega), List.getElem?_eq_none (by omega)]
  rw [hc] at h2
  exact h2
theorem zl_one (n : Int) : ∀ u ∈ (zl n).cells, u.oneCell' = true := by
  intro u hu
  simp only [zl, z0, StC.cells, n3, Sl3.v, List.mem_cons, List.not_mem_nil, or_false] at hu
  rcases hu with rfl | rfl | rfl | rfl | rfl | rfl | rfl | rfl | rfl | rfl | rfl | rfl | rfl | rfl | rfl | rfl | rfl | rfl | rfl | rfl | rfl | rfl | rfl | rfl | rfl | rfl | rfl <;> rfl
attribute [local go_sem ↓] store_st2
set_option maxHeartbeats 4000000 in
set_option maxRecDepth 100000 in
theorem at_any (n : Int) (W : World) : Calls Tryz.prog 20 #[.int .i64 n] W fun e w' => e = .returned (.agg (zl n).cells.toArray) ∧ Below W.heap.size W w' := by
  go_enter Tryz.func20, Tryz.ntmps20
  go_upto_region 2 with fail
  have hA1 : Blk ((W.alloc (.cells z0.cells.toArray 35)).alloc (.cells z0.cells.toArray 35)) W.heap.size 35 z0.cells := (Blk.new W _ _).alloc _
  have hA2 : Blk ((W.alloc (.cells z0.cells.toArray 35)).alloc (.cells z0.cells.toArray 35)) (W.heap.size + 1) 35 z0.cells := by
    have := Blk.new (W.alloc (.cells z0.cells.toArray 35)) 35 z0.cells
    rw [size_alloc] at this; exact this
  have hb0 : Below W.heap.size W ((W.alloc (.cells z0.cells.toArray 35)).alloc (.cells z0.cells.toArray 35)) := bl_alloc (bl_alloc (Below.refl _ _) _) _
  have hw0 : ((W.alloc (.cells z0.cells.toArray 35)).alloc (.cells z0.cells.toArray 35)) = ((W.alloc (.cells z0.cells.toArray 35)).alloc (.cells z0.cells.toArray 35)) := rfl
  generalize hW1 : World.alloc (World.alloc W _) _ = W1
  have e1 : ((W.alloc (.cells z0.cells.toArray 35)).alloc (.cells z0.cells.toArray 35)) = W1 := hW1
  rw [e1] at hA1 hA2 hb0
  have x3 : W1.cell? ⟨W.heap.size + 1, 3, none⟩ = some (.int .i64 0) := hA2.cell 3
  have y3 : W1.frozen? ⟨W.heap.size + 1, 3, none⟩ = false := hA2.free 3
  have gl := hA2.lt
  have hA3 : Blk (W1.setCell ⟨W.heap.size + 1, 3, none⟩ (.int .i64 n)) (W.heap.size + 1) 35 (zl n).cells := hA2.set 3 _
  have hA4 : Blk (W1.setCell ⟨W.heap.size + 1, 3, none⟩ (.int .i64 n)) W.heap.size 35 z0.cells := hA1.set_other (p := ⟨W.heap.size + 1, 3, none⟩) (by show W.heap.size + 1 ≠ _; omega) _
  have hb4 : Below W.heap.size W (W1.setCell ⟨W.heap.size + 1, 3, none⟩ (.int .i64 n)) := bl_setCell hb0 (by show W.heap.size ≤ W.heap.size + 1; omega) _
  clear hw0 e1 hW1 hA1 hA2 hb0
  replace hA3 := Lib.hid hA3
  replace hA4 := Lib.hid hA4
  replace hb4 := Lib.hid hb4
  go_upto_region 3 with fail
  generalize World.setCell W1 _ _ = W2 at *
  obtain ⟨C, hC⟩ : ∃ C, (zl n).cells.toArray = C := ⟨_, rfl⟩
  have L1 := stLoad_is (zl n) hA3.out
  obtain ⟨W3, S1, hB3, hO3⟩ := stStore2_is hA4.out rfl (C := (zl n).cells) rfl (zl_one n)
  have L2 := stLoad_is (zl n) hB3
  rw [hC] at L1 S1 L2
  have hb3 := Lib.hid ((show Below W.heap.size W W3 from hb4.out.trans (Only.below hO3 (by have := hb4.out.size; omega) (fun k hk => by rw [hk]; exact Nat.le_refl _))))
  replace hC := Lib.hid hC
  clear hB3 hO3 hA3 hA4 x3 y3 gl
  go_wp2_with fail
  exact bodyPost_ret (v := .agg C) (by simp [results, Tryz.results20, ↓load_st, asAddr, L2, Result.andThen]) rfl ⟨by rw [hC.out], hb3.out⟩
end Go.Proofs.YtcjcflmnghhbaaaGreat
/-
  awake of chapter 28: the walk; of chapter 28.
  Conditions: as each theorem states them.
-/
namespace Go.Proofs.YtcjcflmnghhbaaaGreat
open Go.RowKit
set_option linter.unusedVariables false
set_option linter.unusedSimpArgs false
open CM (Sv)
theorem add_good {N p : Nat} {l : List Stp} {last : Int} (kind n : Int) (s : List UInt8) (W : World) (h : StopsAt N W p l last) (hN : N ≤ W.heap.size) (hl : l.length < 32) (h0 : 0 ≤ last) (h1 : last ≤ 1000000000) (hq : addS false kind n s = .ok none) :
    Calls Tryz.prog 11 #[.pointer (some ⟨p, 0, none⟩), .int .i64 kind, .int .i64 n, strV s] W fun e w' => e = .returned (.tuple #[.int .i64 (last + 1), .int .i64 0, .int .i64 0]) ∧ StopsAt N w' p (l ++ [⟨last + 1, kind, newN kind n, newC kind s, false, none⟩]) (last + 1) ∧ Below N W w' := by
  refine (add_any kind n s W h hN (by omega) h0 h1).mono fun e w' ⟨h2, h3⟩ => ?_
  unfold AddIs at h2
  rw [show (l.length == 32) = false by simp; omega, hq] at h2
  obtain ⟨h4, c, h5, h6⟩ := h2
  cases c with
  | none => exact ⟨h4, h5, h3⟩
  | some c => simp at h6
theorem add_bad {N p : Nat} {l : List Stp} {last : Int} (kind n : Int) (s : List UInt8) (W : World) (h : StopsAt N W p l last) (hN : N ≤ W.heap.size) (hl : l.length ≤ 32) (h0 : 0 ≤ last) (h1 : last ≤ 1000000000) {a x : Int} (hq : addS (l.length == 32) kind n s = .error (a, x)) :
    Calls Tryz.prog 11 #[.pointer (some ⟨p, 0, none⟩), .int .i64 kind, .int .i64 n, strV s] W fun e w' => e = .returned (.tuple #[.int .i64 0, .int .i64 a, .int .i64 x]) ∧ StopsAt N w' p l last ∧ Below N W w' := by
  refine (add_any kind n s W h hN hl h0 h1).mono fun e w' ⟨h2, h3⟩ => ?_
  unfold AddIs at h2
  rw [hq] at h2
  exact ⟨h2.1, h2.2, h3⟩
/-- a row of numbers -/
theorem own_ints {w : World} {base n : Nat} {v : Value} {xs : List Int} (h : w.ownsRow base 3 1 v n (xs.map (Value.int .i64))) (h0 : 0 < n) : ∃ g cap, v = .slice (some ⟨g, 0, none⟩) n cap ∧ g < w.heap.size ∧ n = xs.length ∧ ∀ j (hj : j < xs.length), w.cell? ⟨g, j, none⟩ = some (.int .i64 xs[j]) := by
  have hn : n = xs.length := by have := h.1; simp at this; omega
  rcases h.2 with ⟨_, h2⟩ | ⟨g, cap, cur, h1, h2, h3, h4, h5, h6, h7⟩
  · omega
  · refine ⟨g, cap, h1, (Array.getElem?_eq_some_iff.1 h3).1, hn, fun j hj => ?_⟩
    have h8 : (cur.toList.take (n * 1))[j]? = some (.int .i64 xs[j]) := by rw [h7, List.getElem?_map, List.getElem?_eq_getElem hj]; rfl
    rw [List.getElem?_take, if_pos (by omega)] at h8
    simp only [World.cell?, h3]
    simpa using h8
def aw28 : Stp := ⟨1, 1, 2, [], false, none⟩
set_option maxHeartbeats 4000000 in
set_option maxRecDepth 100000 in
theorem awake28 (W : World) (hm : MxAt W) : Calls Tryz.prog 5 #[] W fun e w' => e = .returned (.bool true) ∧ Below W.heap.size W w' := by
  have hnw := Lib.hid (new_stops W.heap.size W (Nat.le_refl _))
  have had := Lib.hid (fun w2 p (h : StopsAt W.heap.size w2 p [] 0) (hb : Below W.heap.size W w2) => (by
    have := add_good 1 2 [] w2 h hb.size (by simp) (by omega) (by omega) (by rfl)
    exact this : Calls Tryz.prog 11 #[.pointer (some ⟨p, 0, none⟩), .int .i64 1, .int .i64 2, .string ⟨#[]⟩] w2 fun e w' => e = .returned (.tuple #[.int .i64 1, .int .i64 0, .int .i64 0]) ∧ StopsAt W.heap.size w' p [aw28] 1 ∧ Below W.heap.size w2 w'))
  obtain ⟨C1, hC1⟩ : ∃ C, (zl 1).cells.toArray = C := ⟨_, rfl⟩
  obtain ⟨C2, hC2⟩ : ∃ C, (zl 2).cells.toArray = C := ⟨_, rfl⟩
  have ha1 := Lib.hid (fun w' => at_any 1 w')
  have ha2 := Lib.hid (fun w' => at_any 2 w')
  have hh1 := Lib.hid (fun w2 p (h : StopsAt W.heap.size w2 p [aw28] 1) (hb : Below W.heap.size W w2) => (by
    have := hits_any h (by simp) (zl_sv w2 1) (zl_sv w2 2) (hm.below hb)
    rw [hC1, hC2] at this
    refine this.mono fun e w3 ⟨v, h1, h2, h3⟩ => ?_
    obtain ⟨g, cap, h4, h5, h6, h7⟩ := own_ints h2 (by decide)
    exact ⟨g, cap, by rw [h1, h4]; rfl, h5, h7 0 (by decide), h3⟩ : Calls Tryz.prog 16 #[.pointer (some ⟨p, 0, none⟩), .agg C1, .agg C2] w2 fun e w' => ∃ g cap, e = .returned (.slice (some ⟨g, 0, none⟩) 1 cap) ∧ g < w'.heap.size ∧ w'.cell? ⟨g, 0, none⟩ = some (.int .i64 1) ∧ Below w2.heap.size w2 w'))
  have hh2 := Lib.hid (fun w2 p (h : StopsAt W.heap.size w2 p [aw28] 1) (hb : Below W.heap.size W w2) => (by
    have := hits_any h (by simp) (zl_sv w2 2) (zl_sv w2 2) (hm.below hb)
    rw [hC2] at this
    refine this.mono fun e w3 ⟨v, h1, h2, h3⟩ => ?_
    obtain ⟨a, c, rfl⟩ := own_slice h2
    exact ⟨a, c, h1, h3⟩ : Calls Tryz.prog 16 #[.pointer (some ⟨p, 0, none⟩), .agg C2, .agg C2] w2 fun e w' => ∃ a c, e = .returned (.slice a 0 c) ∧ Below w2.heap.size w2 w'))
  rw [hC1] at ha1
  rw [hC2] at ha2
  replace hC1 := Lib.hid hC1
  replace hC2 := Lib.hid hC2
  clear hm
  go_enter Tryz.func5, Tryz.ntmps5
  go_upto_region 3 with (first
    | (go_at_call 6; refine hnw.out.mono ?_; rintro e w2 ⟨p, rfl, hS, hb2⟩)
    | (go_at_call 11; (with_reducible refine (had.out _ _ hS hb2).mono ?_); rintro e w3 ⟨rfl, hS3, hb3⟩; have hb3' := hb2.trans hb3))
  go_upto_region 4 with (first
    | (go_at_call 20; (first | ((with_reducible refine (ha1.out _).mono ?_); rintro e w4 ⟨rfl, hb4⟩) | ((with_reducible refine (ha2.out _).mono ?_); rintro e w5 ⟨rfl, hb5⟩; have hb45 := bl_trans hb4 hb5)))
    | (go_at_call 16; (with_reducible refine (hh1.out _ _ (hS3.below hb45) (bl_trans hb3' hb45)).mono ?_); rintro e w6 ⟨g, cap, rfl, hg, hc6, hb6⟩; have hb56 := bl_trans hb45 hb6))
  clear hb4 hb5 hb6 hb45 ha1 hh1
  go_wp2_with (first
    | (go_at_call 20; (with_reducible refine (ha2.out _).mono ?_); rintro e w7 ⟨rfl, hb7⟩; have hb56 := bl_trans hb56 hb7)
    | (go_at_call 16; (with_reducible refine (hh2.out _ _ (hS3.below hb56) (bl_trans hb3' hb56)).mono ?_); rintro e w8 ⟨a, c, rfl, hb8⟩; have hb56 := bl_trans hb56 hb8))
  go_ret
  exact ⟨rfl, bl_trans hb3' hb56⟩
end Go.Proofs.YtcjcflmnghhbaaaGreat
