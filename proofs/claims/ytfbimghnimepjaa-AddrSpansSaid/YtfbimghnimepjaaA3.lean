/-
  The walk of the law AddrSpans: it returns true and changes nothing that was there.
  Conditions: as each theorem states them; none beyond.
-/
import Derived.Test.YtfbimghnimepjaaAddr
namespace Go.Proofs.Ytfbimghnimepjaa
open Go.RowKit
set_option linter.unusedVariables false
theorem sel_at (S O : Bool) (E: Int) (k1 n1 r1 k2 n2 r2 line : Int) (active last : Bool) (f : Value) (w : World) (h1 : (k1 == 3) = false) (h2 : (k2 == 3) = false)
    (hS : selS k1 n1 k2 n2 active line last = S) (hO : selO k1 n1 k2 n2 active line last = O) (hE : selE k1 k2 = E) :
    Calls Try.prog 18 #[.agg #[.int .i64 k1, .int .i64 n1, .int .i64 r1], .agg #[.int .i64 k2, .int .i64 n2, .int .i64 r2], .bool active, .agg #[.int .i64 line, .bool last, f]] w
      fun e w' => e = .returned (.tuple #[.bool S, .bool O, .int .i64 E]) ∧ Below w.heap.size w w' := by
  subst hS hO hE; exact sel_plain _ _ _ _ _ _ _ _ _ _ _ h1 h2
def spanOn (F T i : Int) : Bool := decide (1 ≤ F ∧ F ≤ i - 1 ∧ i - 1 < T)
def Box3 (w : World) (b : Nat) (x y z : Int) : Prop := w.cell? ⟨b, 0, none⟩ = some (.int .i64 x) ∧ w.cell? ⟨b, 1, none⟩ = some (.int .i64 y) ∧ w.cell? ⟨b, 2, none⟩ = some (.int .i64 z)
theorem Box3.below {B : Nat} {w w' : World} {b : Nat} {x y z : Int} (h : Box3 w b x y z) (hb : Below B w w') (hB : b < B) : Box3 w' b x y z :=
  ⟨(hb.cell (p := ⟨b, 0, none⟩) hB).trans h.1, (hb.cell (p := ⟨b, 1, none⟩) hB).trans h.2.1, (hb.cell (p := ⟨b, 2, none⟩) hB).trans h.2.2⟩
theorem spanSel (F T i : Int) (hi : 1 ≤ i) (hF : 0 ≤ F) (last : Bool) : selS 1 F 1 T (spanOn F T i) i last = decide (1 ≤ F ∧ F ≤ i ∧ (i ≤ F ∨ i ≤ T)) ∧ selO 1 F 1 T (spanOn F T i) i last = spanOn F T (i + 1) ∧ selE 1 1 = 0 := by
  simp only [selS, selO, selE, spanOn, isK, hv, beh]
  grind
theorem bcell {W w1 : World} (hb : Below W.heap.size W w1) : (∀ b o, b < W.heap.size → w1.cell? ⟨b, o, none⟩ = W.cell? ⟨b, o, none⟩) ∧ (∀ b o, b < W.heap.size → w1.frozen? ⟨b, o, none⟩ = W.frozen? ⟨b, o, none⟩) :=
  ⟨fun b o h => hb.cell (p := ⟨b, o, none⟩) h, fun b o h => hb.frozen (p := ⟨b, o, none⟩) h⟩

set_option maxHeartbeats 2000000 in
theorem spans_walk (a b c : Int) (ha : 0 ≤ a ∧ a ≤ 255) (hb : 0 ≤ b ∧ b ≤ 255) (hc : 0 ≤ c ∧ c ≤ 255) (w : World) :
    Calls Try.prog 4 #[.int .u8 a, .int .u8 b, .int .u8 c] w fun e w' => e = .returned (.bool true) ∧ Below w.heap.size w w' := by
  go_enter Try.func4, Try.ntmps4
  go_wp2_with fail
  go_loopw [10, 11] (fun on i wr => ∃ k : Int, 1 ≤ k ∧ k ≤ c % 60 + 1 ∧ i = .int .i64 k ∧ on = .bool (spanOn (a % 70) (b % 70) k) ∧ Below w.heap.size w wr ∧ Box3 wr w.heap.size 1 (a % 70) 0 ∧ Box3 wr (w.heap.size + 1) 1 (b % 70) 0 ∧ w.heap.size + 1 < wr.heap.size) (fun _ i _ => (c % 60 + 1 - intOf i).toNat)
  case atStart => 
    refine ⟨1, by omega, by omega, rfl, ?_, bl_alloc (bl_alloc (Below.refl _ _) _) _, ?_, ?_, ?_⟩
    · simp [spanOn]; omega
    · refine ⟨?_, ?_, ?_⟩ <;> go_simp
    · refine ⟨?_, ?_, ?_⟩ <;> go_simp
    · simp
  case round =>
    obtain ⟨k, hk1, hk2, rfl, rfl, hbl, hb1, hb2, hsz⟩ := hrel
    have hss := spanSel (a % 70) (b % 70) k hk1 (by omega) (k == c % 60)
    have hoo : spanOn (a % 70) (b % 70) (k + 1) = true → (1 ≤ (a % 70) ∧ (a % 70) ≤ k ∧ (k ≤ (a % 70) ∨ k ≤ (b % 70))) := by simp [spanOn]; omega
    have hb1x := hb1
    have hb2x := hb2
    obtain ⟨q1, q2, q3⟩ := hb1x
    obtain ⟨p1, p2, p3⟩ := hb2x
    by_cases hlt : k ≤ c % 60
    · by_cases hin : 1 ≤ (a % 70) ∧ (a % 70) ≤ k ∧ (k ≤ (a % 70) ∨ k ≤ (b % 70))
      · have g1 : 1 ≤ a % 70 := hin.1
        have g2 : a % 70 ≤ k := hin.2.1
        have g3 : k ≤ max (a % 70) (b % 70) := by omega
        have H := sel_at true (spanOn (a % 70) (b % 70) (k + 1)) 0 1 (a % 70) 0 1 (b % 70) 0 k (spanOn (a % 70) (b % 70) k) (k == c % 60) .nilFunc wr rfl rfl (hss.1.trans (by simpa using hin)) hss.2.1 hss.2.2
        have H := Lib.hid H
        clear hss hoo hin
        go_wp2_with (go_at_call 18; refine (H.out).mono ?_; rintro e w1 ⟨rfl, hb3⟩; obtain ⟨q1', q2', q3'⟩ := hb1.below hb3 (by omega); obtain ⟨p1', p2', p3'⟩ := hb2.below hb3 (by omega))
        all_goals go_roundw
        all_goals first | (simp [intOf]; omega) | (exact ⟨k + 1, by omega, by omega, rfl, by first | rfl | (simp only [*]; done), hbl.trans (hb3.mono hbl.size), hb1.below hb3 (by omega), hb2.below hb3 (by omega), by have := hb3.size; omega⟩)
      · have hO : spanOn (a % 70) (b % 70) (k + 1) = false := by simpa using fun h => hin (hoo h)
        have H := sel_at false false 0 1 (a % 70) 0 1 (b % 70) 0 k (spanOn (a % 70) (b % 70) k) (k == c % 60) .nilFunc wr rfl rfl (hss.1.trans (by simpa using hin)) (hss.2.1.trans hO) hss.2.2
        have H := Lib.hid H
        have hO := Lib.hid hO
        clear hss
        by_cases g1 : 1 ≤ a % 70
        · by_cases g2 : a % 70 ≤ k
          · have g3 : max (a % 70) (b % 70) < k := by omega
            go_wp2_with (go_at_call 18; refine (H.out).mono ?_; rintro e w1 ⟨rfl, hb3⟩; obtain ⟨q1', q2', q3'⟩ := hb1.below hb3 (by omega); obtain ⟨p1', p2', p3'⟩ := hb2.below hb3 (by omega))
            all_goals go_roundw
            all_goals first | (simp [intOf]; omega) | (exact ⟨k + 1, by omega, by omega, rfl, by rw [hO.out], hbl.trans (hb3.mono hbl.size), hb1.below hb3 (by omega), hb2.below hb3 (by omega), by have := hb3.size; omega⟩)
          · go_wp2_with (go_at_call 18; refine (H.out).mono ?_; rintro e w1 ⟨rfl, hb3⟩; obtain ⟨q1', q2', q3'⟩ := hb1.below hb3 (by omega); obtain ⟨p1', p2', p3'⟩ := hb2.below hb3 (by omega))
            all_goals go_roundw
            all_goals first | (simp [intOf]; omega) | (exact ⟨k + 1, by omega, by omega, rfl, by rw [hO.out], hbl.trans (hb3.mono hbl.size), hb1.below hb3 (by omega), hb2.below hb3 (by omega), by have := hb3.size; omega⟩)
        · go_wp2_with (go_at_call 18; refine (H.out).mono ?_; rintro e w1 ⟨rfl, hb3⟩; obtain ⟨q1', q2', q3'⟩ := hb1.below hb3 (by omega); obtain ⟨p1', p2', p3'⟩ := hb2.below hb3 (by omega))
          all_goals go_roundw
          all_goals first | (simp [intOf]; omega) | (exact ⟨k + 1, by omega, by omega, rfl, by rw [hO.out], hbl.trans (hb3.mono hbl.size), hb1.below hb3 (by omega), hb2.below hb3 (by omega), by have := hb3.size; omega⟩)
    · clear hss hoo hb1 hb2
      go_wp2_with (go_at_call 14; go_loud (refine (awake_any _).mono ?_); rintro e w1 ⟨rfl, hb4⟩)
      go_ret
      exact ⟨rfl, hbl.trans (hb4.mono hbl.size)⟩
end Go.Proofs.Ytfbimghnimepjaa
