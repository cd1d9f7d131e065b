/-
  awake of chapter 28: the walk; of chapter 28.
  Conditions: as each theorem states them.
-/
import Derived.Test.YtlaafamodaogmaaStopJ
namespace Go.Proofs.Ytlaafamodaogmaa
open Go.RowKit
set_option linter.unusedVariables false
set_option linter.unusedSimpArgs false
open CM (Sv)
theorem add_good {N p : Nat} {l : List Stp} {last : Int} (kind n : Int) (s : List UInt8) (W : World) (h : StopsAt N W p l last) (hN : N ≤ W.heap.size) (hl : l.length < 32) (h0 : 0 ≤ last) (h1 : last ≤ 1000000000) (hq : addS false kind n s = .ok none) :
    Calls Try.prog 20 #[.pointer (some ⟨p, 0, none⟩), .int .i64 kind, .int .i64 n, strV s] W fun e w' => e = .returned (.tuple #[.int .i64 (last + 1), .int .i64 0, .int .i64 0]) ∧ StopsAt N w' p (l ++ [⟨last + 1, kind, newN kind n, newC kind s, false, none⟩]) (last + 1) ∧ Below N W w' := by
  refine (add_any kind n s W h hN (by omega) h0 h1).mono fun e w' ⟨h2, h3⟩ => ?_
  unfold AddIs at h2
  rw [show (l.length == 32) = false by simp; omega, hq] at h2
  obtain ⟨h4, c, h5, h6⟩ := h2
  cases c with
  | none => exact ⟨h4, h5, h3⟩
  | some c => simp at h6
theorem add_bad {N p : Nat} {l : List Stp} {last : Int} (kind n : Int) (s : List UInt8) (W : World) (h : StopsAt N W p l last) (hN : N ≤ W.heap.size) (hl : l.length ≤ 32) (h0 : 0 ≤ last) (h1 : last ≤ 1000000000) {a x : Int} (hq : addS (l.length == 32) kind n s = .error (a, x)) :
    Calls Try.prog 20 #[.pointer (some ⟨p, 0, none⟩), .int .i64 kind, .int .i64 n, strV s] W fun e w' => e = .returned (.tuple #[.int .i64 0, .int .i64 a, .int .i64 x]) ∧ StopsAt N w' p l last ∧ Below N W w' := by
  refine (add_any kind n s W h hN hl h0 h1).mono fun e w' ⟨h2, h3⟩ => ?_
  unfold AddIs at h2
  rw [hq] at h2
  exact ⟨h2.1, h2.2, h3⟩
/-- a row of numbers -/
theorem own_ints {w : World} {base n : Nat} {v : Value} {xs : List Int} (h : w.ownsRow base 3 1 v n (xs.map (Value.int .i64))) (h0 : 0 < n) : ∃ g cap, v = .slice (some ⟨g, 0, none⟩) n cap ∧ g < w.heap.size ∧ n = xs.length ∧ ∀ j (hj : j < xs.length), w.cell? ⟨g, j, none⟩ = some (.int .i64 xs[j]) := by
  have hn : n = xs.length := by have := h.1; simp at this; omega
  rcases h.2 with ⟨_, h2⟩ | ⟨g, cap, cur, h1, h2, h3, h4, h5, h6, h7⟩
  · omega
  · refine ⟨g, cap, h1, (Array.getElem?_eq_some_iff.1 h3).1, hn, fun j hj => ?_⟩
    have h8 : (cur.toList.take (n * 1))[j]? = some (.int .i64 xs[j]) := by rw [h7, List.getElem?_map, List.getElem?_eq_getElem hj]; rfl
    rw [List.getElem?_take, if_pos (by omega)] at h8
    simp only [World.cell?, h3]
    simpa using h8
def aw28 : Stp := ⟨1, 1, 2, [], false, none⟩
set_option maxHeartbeats 4000000 in
set_option maxRecDepth 100000 in
theorem awake28 (W : World) (hm : MxAt W) : Calls Try.prog 23 #[] W fun e w' => e = .returned (.bool true) ∧ Below W.heap.size W w' := by
  have hnw := Lib.hid (new_stops W.heap.size W (Nat.le_refl _))
  have had := Lib.hid (fun w2 p (h : StopsAt W.heap.size w2 p [] 0) (hb : Below W.heap.size W w2) => (by
    have := add_good 1 2 [] w2 h hb.size (by simp) (by omega) (by omega) (by rfl)
    exact this : Calls Try.prog 20 #[.pointer (some ⟨p, 0, none⟩), .int .i64 1, .int .i64 2, .string ⟨#[]⟩] w2 fun e w' => e = .returned (.tuple #[.int .i64 1, .int .i64 0, .int .i64 0]) ∧ StopsAt W.heap.size w' p [aw28] 1 ∧ Below W.heap.size w2 w'))
  obtain ⟨C1, hC1⟩ : ∃ C, (zl 1).cells.toArray = C := ⟨_, rfl⟩
  obtain ⟨C2, hC2⟩ : ∃ C, (zl 2).cells.toArray = C := ⟨_, rfl⟩
  have ha1 := Lib.hid (fun w' => at_any 1 w')
  have ha2 := Lib.hid (fun w' => at_any 2 w')
  have hh1 := Lib.hid (fun w2 p (h : StopsAt W.heap.size w2 p [aw28] 1) (hb : Below W.heap.size W w2) => (by
    have := hits_any h (by simp) (zl_sv w2 1) (zl_sv w2 2) (hm.below hb)
    rw [hC1, hC2] at this
    refine this.mono fun e w3 ⟨v, h1, h2, h3⟩ => ?_
    obtain ⟨g, cap, h4, h5, h6, h7⟩ := own_ints h2 (by decide)
    exact ⟨g, cap, by rw [h1, h4]; rfl, h5, h7 0 (by decide), h3⟩ : Calls Try.prog 27 #[.pointer (some ⟨p, 0, none⟩), .agg C1, .agg C2] w2 fun e w' => ∃ g cap, e = .returned (.slice (some ⟨g, 0, none⟩) 1 cap) ∧ g < w'.heap.size ∧ w'.cell? ⟨g, 0, none⟩ = some (.int .i64 1) ∧ Below w2.heap.size w2 w'))
  have hh2 := Lib.hid (fun w2 p (h : StopsAt W.heap.size w2 p [aw28] 1) (hb : Below W.heap.size W w2) => (by
    have := hits_any h (by simp) (zl_sv w2 2) (zl_sv w2 2) (hm.below hb)
    rw [hC2] at this
    refine this.mono fun e w3 ⟨v, h1, h2, h3⟩ => ?_
    obtain ⟨a, c, rfl⟩ := own_slice h2
    exact ⟨a, c, h1, h3⟩ : Calls Try.prog 27 #[.pointer (some ⟨p, 0, none⟩), .agg C2, .agg C2] w2 fun e w' => ∃ a c, e = .returned (.slice a 0 c) ∧ Below w2.heap.size w2 w'))
  rw [hC1] at ha1
  rw [hC2] at ha2
  replace hC1 := Lib.hid hC1
  replace hC2 := Lib.hid hC2
  clear hm
  go_enter Try.func23, Try.ntmps23
  go_upto_region 3 with (first
    | (go_at_call 19; refine hnw.out.mono ?_; rintro e w2 ⟨p, rfl, hS, hb2⟩)
    | (go_at_call 20; (with_reducible refine (had.out _ _ hS hb2).mono ?_); rintro e w3 ⟨rfl, hS3, hb3⟩; have hb3' := hb2.trans hb3))
  go_upto_region 4 with (first
    | (go_at_call 45; (first | ((with_reducible refine (ha1.out _).mono ?_); rintro e w4 ⟨rfl, hb4⟩) | ((with_reducible refine (ha2.out _).mono ?_); rintro e w5 ⟨rfl, hb5⟩; have hb45 := bl_trans hb4 hb5)))
    | (go_at_call 27; (with_reducible refine (hh1.out _ _ (hS3.below hb45) (bl_trans hb3' hb45)).mono ?_); rintro e w6 ⟨g, cap, rfl, hg, hc6, hb6⟩; have hb56 := bl_trans hb45 hb6))
  clear hb4 hb5 hb6 hb45 ha1 hh1
  go_wp2_with (first
    | (go_at_call 45; (with_reducible refine (ha2.out _).mono ?_); rintro e w7 ⟨rfl, hb7⟩; have hb56 := bl_trans hb56 hb7)
    | (go_at_call 27; (with_reducible refine (hh2.out _ _ (hS3.below hb56) (bl_trans hb3' hb56)).mono ?_); rintro e w8 ⟨a, c, rfl, hb8⟩; have hb56 := bl_trans hb56 hb8))
  go_ret
  exact ⟨rfl, bl_trans hb3' hb56⟩
end Go.Proofs.Ytlaafamodaogmaa
