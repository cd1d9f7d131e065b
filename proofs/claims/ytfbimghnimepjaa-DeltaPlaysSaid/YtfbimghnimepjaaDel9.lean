/-
  The contract of the reference's put that does not fit, and of put altogether, of chapter 23.
  Conditions: as each theorem states them.
-/
import Derived.Test.YtfbimghnimepjaaDel8
namespace Go.Proofs.Ytfbimghnimepjaa
open Go.RowKit
set_option linter.unusedVariables false
set_option linter.unusedSimpArgs false
attribute [local go_sem ↓] run_cut_h run_cut_l run_cut_lh
set_option maxHeartbeats 2000000 in
set_option maxRecDepth 100000 in
theorem rput_noA (f p : Int) (oa na la : Option Addr) (on oc nn nc n lc : Nat) (w : World) (hn : n ≤ 1000000) (hf : f < 0 ∨ (n : Int) ≤ f) :
    Calls Try.prog 78 #[.slice la n lc, .int .i64 f, .int .i64 p, .slice oa on oc, .slice na nn nc] w fun e w' => e = .returned (.bool false) ∧ w = w' := by
  by_cases h0 : f < 0
  · have g1 : decide (f < 0) = true := by simpa using h0
    clear hf
    go_enter Try.func78, Try.ntmps78
    go_wp2_with fail
    all_goals go_ret
    all_goals exact ⟨rfl, rfl⟩
  · have h1 : (n : Int) ≤ f := by omega
    have g1 : decide (f < 0) = false := by simpa using h0
    have g2 : decide ((n : Int) ≤ f) = true := by simpa using h1
    clear hf
    go_enter Try.func78, Try.ntmps78
    go_wp2_with fail
    all_goals go_ret
    all_goals exact ⟨rfl, rfl⟩
set_option maxHeartbeats 2000000 in
set_option maxRecDepth 100000 in
theorem rput_noB (i : Nat) (p : Int) (oa na : Option Addr) (on oc nn nc n lc : Nat) (g : Nat) (xa : Option Addr) (m xc : Nat) (w : World) (hn : n ≤ 1000000) (hi : i < n) (hm : m ≤ 1000000) (hon : on ≤ 1000000) (hg : g < w.heap.size) (c1 : w.cell? ⟨g, i, none⟩ = some (.slice xa m xc)) (hp : p < 0 ∨ (m : Int) < p ∨ (0 ≤ p ∧ p ≤ m ∧ (m : Int) - p < on)) :
    Calls Try.prog 78 #[.slice (some ⟨g, 0, none⟩) n lc, .int .i64 (i : Int), .int .i64 p, .slice oa on oc, .slice na nn nc] w fun e w' => e = .returned (.bool false) ∧ w = w' := by
  have z3 : (i : Int) < n := by omega
  have z4 : decide ((i : Int) < 0) = false := by simp only [decide_eq_false_iff_not]; omega
  have z5 : decide (n ≤ i) = false := by simp only [decide_eq_false_iff_not]; omega
  rcases hp with h0 | h0 | ⟨h1, h2, h3⟩
  · have g1 : decide (p < 0) = true := by simpa using h0
    go_enter Try.func78, Try.ntmps78
    go_wp2_with fail
    all_goals go_ret
    all_goals exact ⟨rfl, rfl⟩
  · have g1 : decide (p < 0) = false := by simp only [decide_eq_false_iff_not]; omega
    have g2 : decide ((m : Int) < p) = true := by simpa using h0
    have g3 : (0 : Int) ≤ p := by omega
    go_enter Try.func78, Try.ntmps78
    go_wp2_with fail
    all_goals go_ret
    all_goals exact ⟨rfl, rfl⟩
  · have g1 : decide (p < 0) = false := by simp only [decide_eq_false_iff_not]; omega
    have g2 : decide ((m : Int) < p) = false := by simp only [decide_eq_false_iff_not]; omega
    have g4 : decide ((m : Int) - p < on) = true := by simp only [decide_eq_true_eq]; omega
    go_enter Try.func78, Try.ntmps78
    go_wp2_with fail
    all_goals go_ret
    all_goals exact ⟨rfl, rfl⟩
set_option maxHeartbeats 2000000 in
set_option maxRecDepth 100000 in
theorem rput_noC (i p : Nat) (oa na : Option Addr) (oc nn nc n lc : Nat) (old x : List UInt8) (g : Nat) (xa : Option Addr) (xc : Nat) (w : World) (hn : n ≤ 1000000) (hi : i < n) (hm : x.length ≤ 1000000) (hg : g < w.heap.size)
    (c1 : w.cell? ⟨g, i, none⟩ = some (.slice xa x.length xc)) (x1 : x.length ≤ xc) (hB : ByAt (fun _ => True) false w xa x) (h2 : ByAt (fun _ => True) false w oa old) (hp : p ≤ x.length) (hl3 : old.length ≤ x.length - p) (hpre : old.isPrefixOf (x.drop p) = false) :
    Calls Try.prog 78 #[.slice (some ⟨g, 0, none⟩) n lc, .int .i64 (i : Int), .int .i64 (p : Int), .slice oa old.length oc, .slice na nn nc] w fun e w' => e = .returned (.bool false) ∧ Below w.heap.size w w' := by
  have htk : ((x.drop p).take old.length).length = old.length := by simp; omega
  have hsm := same_any (cutA xa p xc 1) oa ((x.drop p).take old.length) old (xc - p) oc w (by rw [htk]; omega) (by omega) (((hB.any.drop x1 p).take old.length)) h2
  have heq : eqB ((x.drop p).take old.length) old = false := eqB_false.2 (fun e => by
    rw [Bool.eq_false_iff] at hpre
    exact hpre (by rw [List.isPrefixOf_iff_prefix, List.prefix_iff_eq_take]; exact e.symm))
  rw [htk, heq] at hsm
  have z1 : (p : Int) ≤ x.length := by omega
  have z2 : (p : Int) ≤ xc := by omega
  have z3 : (i : Int) < n := by omega
  have z4 : decide ((i : Int) < 0) = false := by simp only [decide_eq_false_iff_not]; omega
  have z5 : decide (n ≤ i) = false := by simp only [decide_eq_false_iff_not]; omega
  have z6 : decide ((p : Int) < 0) = false := by simp only [decide_eq_false_iff_not]; omega
  have z7 : decide (x.length < p) = false := by simp only [decide_eq_false_iff_not]; omega
  have z8 : decide ((x.length : Int) - p < old.length) = false := by simp only [decide_eq_false_iff_not]; omega
  have z10 : (p : Int) + old.length ≤ xc := by omega
  have z11 : ((p : Int) + old.length).toNat = p + old.length := by omega
  have z12 : (p : Int) ≤ (p : Int) + old.length := by omega
  have z13 : p + old.length - p = old.length := by omega
  have z14 : (0 : Int) ≤ (p : Int) + old.length := by omega
  replace hsm := Lib.hid hsm
  replace hpre := Lib.hid hpre
  replace heq := Lib.hid heq
  replace htk := Lib.hid htk
  clear h2 hB
  go_enter Try.func78, Try.ntmps78
  go_wp2_with (first | (go_at_call 37; refine hsm.out.mono ?_; rintro e w' ⟨rfl, m, rfl⟩))
  all_goals go_ret
  all_goals exact ⟨rfl, bl_drewN (Below.refl _ _) _⟩
theorem rput_none (K : Nat → Prop) (own : Bool) (c : DM.Chg) (oa na la : Option Addr) (oc nc lc : Nat) (xs : List (List UInt8)) (w : World) (hn : xs.length ≤ 1000000) (hx : Lens 100000 xs) (hc : ChVal w c oa oc na nc) (h1 : OutAt K own w la xs) (hp : DM.put xs c = none) :
    Calls Try.prog 78 #[.slice la xs.length lc, .int .i64 c.field, .int .i64 c.pos, .slice oa c.old.length oc, .slice na c.new.length nc] w fun e w' => e = .returned (.bool false) ∧ Below w.heap.size w w' := by
  by_cases hf : c.field < 0 ∨ (xs.length : Int) ≤ c.field
  · exact (rput_noA _ _ _ _ _ _ _ _ _ _ _ _ hn hf).mono fun e w' ⟨h, h'⟩ => ⟨h, h' ▸ Below.refl _ _⟩
  · obtain ⟨i, hi⟩ : ∃ i : Nat, c.field = i := ⟨c.field.toNat, by omega⟩
    have hil : i < xs.length := by omega
    obtain ⟨g, rfl, kg, lg, fg, rg⟩ := h1 (by omega)
    obtain ⟨xa, xc, c1, x1, x2, hB⟩ := rg i hil
    have hxl := hx i hil
    have hg : xs.getD c.field.toNat [] = xs[i] := by rw [hi]; simp [List.getD, hil]
    rw [hi]
    by_cases hq : c.pos < 0 ∨ (xs[i].length : Int) < c.pos ∨ (0 ≤ c.pos ∧ c.pos ≤ xs[i].length ∧ (xs[i].length : Int) - c.pos < c.old.length)
    · exact (rput_noB i c.pos oa na _ _ _ _ _ _ g xa _ xc w hn hil (by omega) (by have := hc.o1; omega) lg c1 hq).mono fun e w' ⟨h, h'⟩ => ⟨h, h' ▸ Below.refl _ _⟩
    · obtain ⟨p, hpp⟩ : ∃ p : Nat, c.pos = p := ⟨c.pos.toNat, by omega⟩
      have hpre : c.old.isPrefixOf (xs[i].drop p) = false := by
        rw [Bool.eq_false_iff]
        intro ht
        unfold DM.put at hp
        rw [hg, if_pos ⟨by omega, by omega, by omega, by omega, by rw [hpp]; simpa using ht⟩] at hp
        cases hp
      rw [hpp]
      exact rput_noC i p oa na oc _ nc _ lc c.old xs[i] g xa xc w hn hil (by omega) lg c1 x1 hB.any hc.old (by omega) (by omega) hpre
theorem rput_some (c : DM.Chg) (oa na la : Option Addr) (oc nc lc : Nat) (xs ys : List (List UInt8)) (w : World) (hn : xs.length ≤ 1000000) (hx : Lens 100000 xs) (hc : ChVal w c oa oc na nc) (h1 : OutAt (fun _ => True) false w la xs) (hp : DM.put xs c = some ys) :
    Calls Try.prog 78 #[.slice la xs.length lc, .int .i64 c.field, .int .i64 c.pos, .slice oa c.old.length oc, .slice na c.new.length nc] w fun e w' => e = .returned (.bool true) ∧ Only (fun k => la = some ⟨k, 0, none⟩) w w' ∧ OutAt (fun _ => True) false w' la ys := by
  unfold DM.put at hp
  split at hp
  · rename_i hh
    obtain ⟨q1, q2, q3, q4, q5⟩ := hh
    obtain ⟨i, hi⟩ : ∃ i : Nat, c.field = i := ⟨c.field.toNat, by omega⟩
    obtain ⟨p, hpp⟩ : ∃ p : Nat, c.pos = p := ⟨c.pos.toNat, by omega⟩
    have hil : i < xs.length := by omega
    have hg : xs.getD c.field.toNat [] = xs[i] := by rw [hi]; simp [List.getD, hil]
    rw [hg] at q4 q5 hp
    rw [hi, hpp] at hp ⊢
    rw [hpp] at q4 q5
    simp only [Int.toNat_natCast] at hp q5
    injection hp with hp
    rw [← hp, List.append_assoc]
    exact rput_yes i p oa na la oc nc lc c.old c.new xs w hn hx ⟨hc.o1, hc.o2, hc.o3⟩ ⟨hc.n1, hc.n2, hc.n3⟩ h1 hc.old hc.new hil (by omega) q5
  · cases hp
end Go.Proofs.Ytfbimghnimepjaa
