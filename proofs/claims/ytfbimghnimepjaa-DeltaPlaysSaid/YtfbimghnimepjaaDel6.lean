/-
  The contract of a change's put that does not fit, and of put altogether, of chapter 23.
  Conditions: as each theorem states them.
-/
import Derived.Test.YtfbimghnimepjaaDel5
namespace Go.Proofs.Ytfbimghnimepjaa
open Go.RowKit
set_option linter.unusedVariables false
set_option linter.unusedSimpArgs false
attribute [local go_sem ↓] run_cut_h run_cut_l run_cut_lh
set_option maxHeartbeats 2000000 in
set_option maxRecDepth 100000 in
theorem put_noA (f p : Int) (oa na la : Option Addr) (on oc nn nc n lc : Nat) (w : World) (hn : n ≤ 1000000) (hf : f < 0 ∨ (n : Int) ≤ f) :
    Calls Try.prog 74 #[.agg #[.int .i64 f, .int .i64 p, .slice oa on oc, .slice na nn nc], .slice la n lc] w fun e w' => e = .returned (.bool false) ∧ Below w.heap.size w w' := by
  by_cases h0 : f < 0
  · have g1 : decide (f < 0) = true := by simpa using h0
    clear hf
    go_enter Try.func74, Try.ntmps74
    go_wp2_with (go_quiet (fail))
    all_goals go_ret
    all_goals exact ⟨rfl, bl_drewN (bl_alloc (Below.refl _ _) _) _⟩
  · have h1 : (n : Int) ≤ f := by omega
    have g1 : decide (f < 0) = false := by simpa using h0
    have g2 : decide ((n : Int) ≤ f) = true := by simpa using h1
    have g3 : (0 : Int) ≤ f := by omega
    clear hf
    go_enter Try.func74, Try.ntmps74
    go_wp2_with (go_quiet (fail))
    all_goals go_ret
    all_goals exact ⟨rfl, bl_drewN (bl_alloc (Below.refl _ _) _) _⟩
set_option maxHeartbeats 2000000 in
set_option maxRecDepth 100000 in
theorem put_noB (i : Nat) (p : Int) (oa na : Option Addr) (on oc nn nc n lc : Nat) (g : Nat) (xa : Option Addr) (m xc : Nat) (w : World) (hn : n ≤ 1000000) (hi : i < n) (hm : m ≤ 1000000) (hg : g < w.heap.size) (c1 : w.cell? ⟨g, i, none⟩ = some (.slice xa m xc)) (hp : p < 0 ∨ (m : Int) < p) :
    Calls Try.prog 74 #[.agg #[.int .i64 (i : Int), .int .i64 p, .slice oa on oc, .slice na nn nc], .slice (some ⟨g, 0, none⟩) n lc] w fun e w' => e = .returned (.bool false) ∧ Below w.heap.size w w' := by
  have hb0 : Below w.heap.size w (w.alloc (.cells #[.int .i64 (i : Int), .int .i64 p, .slice oa on oc, .slice na nn nc] 116)) := bl_alloc (Below.refl _ _) _
  have b0 : Blk (w.alloc (.cells #[.int .i64 (i : Int), .int .i64 p, .slice oa on oc, .slice na nn nc] 116)) w.heap.size 116 [.int .i64 (i : Int), .int .i64 p, .slice oa on oc, .slice na nn nc] := Blk.new w _ _
  obtain ⟨W1, hW1⟩ : ∃ W1, w.alloc (.cells #[.int .i64 (i : Int), .int .i64 p, .slice oa on oc, .slice na nn nc] 116) = W1 := ⟨_, rfl⟩
  rw [hW1] at hb0 b0
  have k0 : W1.cell? ⟨w.heap.size, 0, none⟩ = some (.int .i64 (i : Int)) := b0.cell 0
  have k1 : W1.cell? ⟨w.heap.size, 1, none⟩ = some (.int .i64 p) := b0.cell 1
  have k4 : W1.cell? ⟨g, i, none⟩ = some (.slice xa m xc) := (hb0.cell (p := ⟨g, i, none⟩) hg).trans c1
  have z3 : (i : Int) < n := by omega
  have z4 : decide ((i : Int) < 0) = false := by simp only [decide_eq_false_iff_not]; omega
  have z5 : decide (n ≤ i) = false := by simp only [decide_eq_false_iff_not]; omega
  replace hW1 := Lib.hid hW1
  clear c1
  by_cases h0 : p < 0
  · have g1 : decide (p < 0) = true := by simpa using h0
    clear hp
    go_enter Try.func74, Try.ntmps74
    go_wp2_with fail
    rw [hW1.out]
    go_wp2_with (go_quiet (fail))
    all_goals go_ret
    all_goals exact ⟨rfl, bl_drewN hb0 _⟩
  · have h1 : (m : Int) < p := by omega
    have g1 : decide (p < 0) = false := by simpa using h0
    have g2 : decide ((m : Int) < p) = true := by simpa using h1
    have g3 : (0 : Int) ≤ p := by omega
    clear hp
    go_enter Try.func74, Try.ntmps74
    go_wp2_with fail
    rw [hW1.out]
    go_wp2_with (go_quiet (fail))
    all_goals go_ret
    all_goals exact ⟨rfl, bl_drewN hb0 _⟩
set_option maxHeartbeats 2000000 in
set_option maxRecDepth 100000 in
theorem put_noC (i p : Nat) (oa na : Option Addr) (oc nn nc n lc : Nat) (old x : List UInt8) (g : Nat) (xa : Option Addr) (xc : Nat) (w : World) (hn : n ≤ 1000000) (hi : i < n) (hm : x.length ≤ 1000000) (hg : g < w.heap.size)
    (c1 : w.cell? ⟨g, i, none⟩ = some (.slice xa x.length xc)) (x1 : x.length ≤ xc) (hB : ByAt (fun _ => True) false w xa x) (h2 : ByAt (fun _ => True) false w oa old) (hp : p ≤ x.length) (hpre : old.isPrefixOf (x.drop p) = false) :
    Calls Try.prog 74 #[.agg #[.int .i64 (i : Int), .int .i64 (p : Int), .slice oa old.length oc, .slice na nn nc], .slice (some ⟨g, 0, none⟩) n lc] w fun e w' => e = .returned (.bool false) ∧ Below w.heap.size w w' := by
  have hb0 : Below w.heap.size w (w.alloc (.cells #[.int .i64 (i : Int), .int .i64 (p : Int), .slice oa old.length oc, .slice na nn nc] 116)) := bl_alloc (Below.refl _ _) _
  have b0 : Blk (w.alloc (.cells #[.int .i64 (i : Int), .int .i64 (p : Int), .slice oa old.length oc, .slice na nn nc] 116)) w.heap.size 116 [.int .i64 (i : Int), .int .i64 (p : Int), .slice oa old.length oc, .slice na nn nc] := Blk.new w _ _
  obtain ⟨W1, hW1⟩ : ∃ W1, w.alloc (.cells #[.int .i64 (i : Int), .int .i64 (p : Int), .slice oa old.length oc, .slice na nn nc] 116) = W1 := ⟨_, rfl⟩
  rw [hW1] at hb0 b0
  have k0 : W1.cell? ⟨w.heap.size, 0, none⟩ = some (.int .i64 (i : Int)) := b0.cell 0
  have k1 : W1.cell? ⟨w.heap.size, 1, none⟩ = some (.int .i64 (p : Int)) := b0.cell 1
  have k2 : W1.cell? ⟨w.heap.size, 2, none⟩ = some (.slice oa old.length oc) := b0.cell 2
  have k4 : W1.cell? ⟨g, i, none⟩ = some (.slice xa x.length xc) := (hb0.cell (p := ⟨g, i, none⟩) hg).trans c1
  have hpf := fun n => prefix_any (cutA xa p xc 1) oa (x.drop p) old (xc - p) oc (W1.drewN n) (by simp; omega) (((hB.any.drop x1 p).below hb0).drewN n) ((h2.below hb0).drewN n)
  rw [hpre] at hpf
  simp only [List.length_drop] at hpf
  have z1 : (p : Int) ≤ x.length := by omega
  have z2 : (p : Int) ≤ xc := by omega
  have z3 : (i : Int) < n := by omega
  have z4 : decide ((i : Int) < 0) = false := by simp only [decide_eq_false_iff_not]; omega
  have z5 : decide (n ≤ i) = false := by simp only [decide_eq_false_iff_not]; omega
  replace hpf := Lib.hid hpf
  replace hW1 := Lib.hid hW1
  replace hpre := Lib.hid hpre
  clear h2 hB c1
  go_enter Try.func74, Try.ntmps74
  go_wp2_with fail
  rw [hW1.out]
  go_wp2_with (first | (go_at_call 82; refine (hpf.out _).mono ?_; rintro e w' ⟨rfl, rfl⟩) | go_quiet (fail))
  all_goals go_ret
  all_goals exact ⟨rfl, bl_drewN hb0 _⟩
/-- what put needs of the lists -/
def Lens (B : Nat) (xs : List (List UInt8)) : Prop := ∀ j (h : j < xs.length), xs[j].length ≤ B
/-- what put needs of a change in cells -/
structure ChVal (w : World) (c : DM.Chg) (oa : Option Addr) (oc : Nat) (na : Option Addr) (nc : Nat) : Prop where
  o1 : c.old.length ≤ 100000
  o2 : c.old.length ≤ oc
  o3 : oc ≤ maxLen
  n1 : c.new.length ≤ 100000
  n2 : c.new.length ≤ nc
  n3 : nc ≤ maxLen
  old : ByAt (fun _ => True) false w oa c.old
  new : ByAt (fun _ => True) false w na c.new
theorem put_none (K : Nat → Prop) (c : DM.Chg) (oa na la : Option Addr) (oc nc lc : Nat) (xs : List (List UInt8)) (w : World) (hn : xs.length ≤ 1000000) (hx : Lens 100000 xs) (hc : ChVal w c oa oc na nc) (h1 : OutAt K true w la xs) (hp : DM.put xs c = none) :
    Calls Try.prog 74 #[.agg #[.int .i64 c.field, .int .i64 c.pos, .slice oa c.old.length oc, .slice na c.new.length nc], .slice la xs.length lc] w fun e w' => e = .returned (.bool false) ∧ Below w.heap.size w w' := by
  by_cases hf : c.field < 0 ∨ (xs.length : Int) ≤ c.field
  · exact put_noA _ _ _ _ _ _ _ _ _ _ _ _ hn hf
  · obtain ⟨i, hi⟩ : ∃ i : Nat, c.field = i := ⟨c.field.toNat, by omega⟩
    have hil : i < xs.length := by omega
    obtain ⟨g, rfl, kg, lg, fg, rg⟩ := h1 (by omega)
    obtain ⟨xa, xc, c1, x1, x2, hB⟩ := rg i hil
    have hxl := hx i hil
    have hg : xs.getD c.field.toNat [] = xs[i] := by rw [hi]; simp [List.getD, hil]
    rw [hi]
    by_cases hq : c.pos < 0 ∨ (xs[i].length : Int) < c.pos
    · exact put_noB i c.pos oa na _ _ _ _ _ _ g xa _ xc w hn hil (by omega) lg c1 hq
    · obtain ⟨p, hpp⟩ : ∃ p : Nat, c.pos = p := ⟨c.pos.toNat, by omega⟩
      have hpre : c.old.isPrefixOf (xs[i].drop p) = false := by
        rw [Bool.eq_false_iff]
        intro ht
        unfold DM.put at hp
        rw [hg, if_pos ⟨by omega, by omega, by omega, by omega, by rw [hpp]; simpa using ht⟩] at hp
        cases hp
      rw [hpp]
      exact put_noC i p oa na oc _ nc _ lc c.old xs[i] g xa xc w hn hil (by omega) lg c1 x1 hB.any hc.old (by omega) hpre
theorem put_some (K : Nat → Prop) (c : DM.Chg) (oa na la : Option Addr) (oc nc lc : Nat) (xs ys : List (List UInt8)) (w : World) (hK : ∀ b, w.heap.size ≤ b → K b) (hn : xs.length ≤ 1000000) (hx : Lens 100000 xs) (hc : ChVal w c oa oc na nc) (h1 : OutAt K true w la xs) (hp : DM.put xs c = some ys) :
    Calls Try.prog 74 #[.agg #[.int .i64 c.field, .int .i64 c.pos, .slice oa c.old.length oc, .slice na c.new.length nc], .slice la xs.length lc] w fun e w' => e = .returned (.bool true) ∧ Only (fun k => la = some ⟨k, 0, none⟩) w w' ∧ OutAt K true w' la ys := by
  unfold DM.put at hp
  split at hp
  · rename_i hh
    obtain ⟨q1, q2, q3, q4, q5⟩ := hh
    obtain ⟨i, hi⟩ : ∃ i : Nat, c.field = i := ⟨c.field.toNat, by omega⟩
    obtain ⟨p, hpp⟩ : ∃ p : Nat, c.pos = p := ⟨c.pos.toNat, by omega⟩
    have hil : i < xs.length := by omega
    have hg : xs.getD c.field.toNat [] = xs[i] := by rw [hi]; simp [List.getD, hil]
    rw [hg] at q4 q5 hp
    rw [hi, hpp] at hp ⊢
    rw [hpp] at q4 q5
    simp only [Int.toNat_natCast] at hp q5
    injection hp with hp
    rw [← hp, List.append_assoc]
    exact put_yes K i p oa na la oc nc lc c.old c.new xs w hK hn hx ⟨hc.o1, hc.o2, hc.o3⟩ ⟨hc.n1, hc.n2, hc.n3⟩ h1 hc.old hc.new hil (by omega) q5
  · cases hp
/-- how long texts get -/
theorem Lens.put {B : Nat} {xs ys : List (List UInt8)} {c : DM.Chg} (h : Lens B xs) (hp : DM.put xs c = some ys) : Lens (B + c.new.length) ys ∧ ys.length = xs.length := by
  unfold DM.put at hp
  split at hp
  · rename_i hh
    injection hp with hp
    subst hp
    refine ⟨fun j hj => ?_, by simp⟩
    simp only [List.length_set] at hj
    by_cases e : c.field.toNat = j
    · subst e
      simp only [List.getElem_set_self, List.length_append, List.length_take, List.length_drop]
      have hg : xs.getD c.field.toNat [] = xs[c.field.toNat] := by simp [List.getD, hj]
      have := h _ hj
      rw [hg]
      omega
    · rw [List.getElem_set_ne e]
      have := h j hj
      omega
  · cases hp
end Go.Proofs.Ytfbimghnimepjaa
