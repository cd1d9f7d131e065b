/-
  cond.parser: part, but for what is none of not and (; of chapter 27.
  Conditions: as each theorem states them.
-/
import Derived.Test.YtcjcflmnghhbaaaGreatCondNo
namespace Go.Proofs.YtcjcflmnghhbaaaGreat
open Go.RowKit
set_option linter.unusedVariables false
set_option linter.unusedSimpArgs false
open CM (Sv Pc Ps)
def PartOk (s : List UInt8) (n : Nat) : Prop := ∀ p w g, Fit s p w g → CM.Ok s p → 3 * CM.mu s p + 1 ≤ n → Calls Tryz.prog 67 #[.pointer (some ⟨g, 0, none⟩)] w (HoldsOut s g w (CM.run s n .part p))
def BothOk (s : List UInt8) (n : Nat) : Prop := ∀ p w g, Fit s p w g → CM.Ok s p → 3 * CM.mu s p + 2 ≤ n → Calls Tryz.prog 50 #[.pointer (some ⟨g, 0, none⟩)] w (HoldsOut s g w (CM.run s n .both p))
def EitherOk (s : List UInt8) (n : Nat) : Prop := ∀ p w g, Fit s p w g → CM.Ok s p → 3 * CM.mu s p + 3 ≤ n → Calls Tryz.prog 32 #[.pointer (some ⟨g, 0, none⟩)] w (HoldsOut s g w (CM.run s n .either p))
theorem HoldsIs.shape {g : Nat} {phi : CM.M} {v : Value} {W : World} (h : HoldsIs g phi v W) : ∃ f caps, v = .func (.func f) #[] caps := by
  obtain ⟨f, caps, e, _⟩ := h
  exact ⟨f, caps, e⟩
/-- the copy of the piece -/
def pcCells (x : Pc) : List Value := [.int .i64 (x.kind : Int), .int .i64 (x.at_ : Int), .int .i64 x.n, strV x.s]
set_option maxHeartbeats 4000000 in
set_option maxRecDepth 100000 in
theorem part_not {s : List UInt8} {n : Nat} (IH : PartOk s n) {p : Ps} {w : World} {g : Nat} (h : Fit s p w g) (hok : CM.Ok s p) (hm : 3 * CM.mu s p + 1 ≤ n + 1) (hi : p.pc.is 1 CM.notW = true) :
    Calls Tryz.prog 67 #[.pointer (some ⟨g, 0, none⟩)] w (HoldsOut s g w (CM.run s (n + 1) .part p)) := by
  obtain ⟨hk, hs⟩ := CM.is_kind hi
  obtain ⟨c0, c1, c2, c3, c4, c5, c6⟩ := h.at_.facts
  rw [hk] at c2
  rw [hs] at c5
  have hgl := h.at_.lt
  obtain ⟨W1, hW1⟩ : ∃ W1, w.alloc (.cells #[.int .i64 1, .int .i64 (p.pc.at_ : Int), .int .i64 p.pc.n, .string ⟨#[110, 111, 116]⟩] 92) = W1 := ⟨_, rfl⟩
  have hF : Fit s p W1 g := hW1 ▸ h.alloc _
  have hO : Oly g w W1 := hW1 ▸ (Only.refl _ w).alloc _
  have hkk : p.pc.kind ≠ 0 := by omega
  replace hW1 := Lib.hid hW1
  replace hO := Lib.hid hO
  unfold HoldsOut
  have c2' : w.cell? ⟨g, 2, none⟩ = some (.int .i64 1) := c2
  have hgl1 := hF.at_.lt
  clear c2
  cases hd : CM.deeperS s p with
  | error e =>
    obtain ⟨a, x⟩ := e
    have hR : CM.run s (n + 1) .part p = .error (a, x) := by simp only [CM.run]; rw [if_pos hi, hd]
    have hdp := Lib.hid (deeper_err hF hok.deep hd)
    rw [hR]
    clear h hF hok hd hR hi hk hs
    go_enter Tryz.func67, Tryz.ntmps67
    go_wp2_with (go_at_call 87; rw [hW1.out]; refine hdp.out.mono ?_; rintro e w3 ⟨rfl, hO3⟩)
    all_goals exact ⟨rfl, Out.err rfl (Only.trans hO.out hO3)⟩
  | ok q =>
    obtain ⟨l1, l2, l3⟩ := CM.deeper_less hok hkk hd
    have hdp := Lib.hid (deeper_ok hF hok.deep hd)
    have hpt := fun w3 (hP : PsAt w3 g s q) => IH q w3 g ⟨hF.len, l1.le, hP⟩ l1 (by omega)
    cases hr : CM.run s n .part q with
    | error e =>
      obtain ⟨a, x⟩ := e
      have hR : CM.run s (n + 1) .part p = .error (a, x) := by simp only [CM.run]; rw [if_pos hi, hd]; simp only; rw [hr]
      have hp3 := Lib.hid (fun w3 (hP : PsAt w3 g s q) => Out.no (hpt w3 hP) hr)
      rw [hR]
      clear h hF hok hd hR hi hk hs hpt hr
      go_enter Tryz.func67, Tryz.ntmps67
      go_wp2_with (first
        | (go_at_call 87; rw [hW1.out]; refine hdp.out.mono ?_; rintro e w3 ⟨rfl, hP3, hO3⟩)
        | (go_at_call 67; refine (hp3.out _ hP3).mono ?_; rintro e w4 ⟨rfl, hO4⟩))
      all_goals exact ⟨rfl, Out.err rfl (Only.trans hO.out (Only.trans hO3 hO4))⟩
    | ok fr =>
      obtain ⟨phi, r⟩ := fr
      have hR : CM.run s (n + 1) .part p = .ok (fun was now => !phi was now, ⟨r.pc, r.at_, r.deep - 1⟩) := by simp only [CM.run]; rw [if_pos hi, hd]; simp only; rw [hr]
      have hp3 := Lib.hid (fun w3 (hP : PsAt w3 g s q) => Out.yes (hpt w3 hP) hr)
      have hrd := (CM.run_less s n _ _ _ _ l1 hr).1.deep
      rw [l2] at hrd
      have hd20 := hok.deep
      replace hrd := Lib.hid hrd
      rw [hR]
      clear h hF hok hd hR hi hk hs hpt hr l1 l2 l3
      go_enter Tryz.func67, Tryz.ntmps67
      go_wp2_with (first
        | (go_at_call 87; rw [hW1.out]; refine hdp.out.mono ?_; rintro e w3 ⟨rfl, hP3, hO3⟩)
        | (go_at_call 67; refine (hp3.out _ hP3).mono ?_; rintro e w4 ⟨v, rfl, hH, hP4, hO4⟩; have d6 : w4.cell? ⟨g, 6, none⟩ = some (.int .i64 ((p.deep : Int) + 1)) := (hP4.cell 6).trans (by rw [hrd.out]; rfl); have e6 := hP4.free 6; have hl4 := hP4.lt; obtain ⟨ff, caps, rfl⟩ := hH.shape; replace hH := Lib.hid hH; replace hP4 := Lib.hid hP4))
      go_ret
      have o4 : Oly g w4 (w4.setCell ⟨g, 6, none⟩ (.int .i64 (p.deep : Int))) := Oly.set (Only.refl _ w4) 6 _
      have o5 : Oly g w4 ((w4.setCell ⟨g, 6, none⟩ (.int .i64 (p.deep : Int))).alloc (.cells #[.func (.func ff) #[] caps] 96)) := Only.alloc o4 _
      have hH5 := hH.out.later o5
      have hP5 : PsAt ((w4.setCell ⟨g, 6, none⟩ (.int .i64 (p.deep : Int))).alloc (.cells #[.func (.func ff) #[] caps] 96)) g s ⟨r.pc, r.at_, r.deep - 1⟩ := by
        rw [show r.deep - 1 = p.deep by have := hrd.out; omega]
        exact Blk.alloc (PsAt.dp hP4.out p.deep) _
      have hz : (w4.setCell ⟨g, 6, none⟩ (.int .i64 (p.deep : Int))).heap.size = w4.heap.size := by simp [World.setCell]
      have hcl : ((w4.setCell ⟨g, 6, none⟩ (.int .i64 (p.deep : Int))).alloc (.cells #[.func (.func ff) #[] caps] 96)).cell? ⟨w4.heap.size, 0, none⟩ = some (.func (.func ff) #[] caps) := by
        have := (Blk.new (w4.setCell ⟨g, 6, none⟩ (.int .i64 (p.deep : Int))) 96 [.func (.func ff) #[] caps]).cell 0
        rw [hz] at this
        exact this
      exact Out.ok rfl (HoldsIs.not (q := w4.heap.size) hcl (by simp [hz]) (by omega) hH5) hP5 (Only.trans hO.out (Only.trans hO3 (Only.trans hO4 o5)))
set_option maxHeartbeats 4000000 in
set_option maxRecDepth 100000 in
theorem part_paren {s : List UInt8} {n : Nat} (IH : EitherOk s n) {p : Ps} {w : World} {g : Nat} (h : Fit s p w g) (hok : CM.Ok s p) (hm : 3 * CM.mu s p + 1 ≤ n + 1) (hi0 : p.pc.is 1 CM.notW = false) (hi : p.pc.is 5 [40] = true) :
    Calls Tryz.prog 67 #[.pointer (some ⟨g, 0, none⟩)] w (HoldsOut s g w (CM.run s (n + 1) .part p)) := by
  obtain ⟨hk, hs⟩ := CM.is_kind hi
  obtain ⟨c0, c1, c2, c3, c4, c5, c6⟩ := h.at_.facts
  rw [hk] at c2
  rw [hs] at c5
  have hgl := h.at_.lt
  obtain ⟨W1, hW1⟩ : ∃ W1, w.alloc (.cells #[.int .i64 5, .int .i64 (p.pc.at_ : Int), .int .i64 p.pc.n, .string ⟨#[40]⟩] 92) = W1 := ⟨_, rfl⟩
  have hF : Fit s p W1 g := hW1 ▸ h.alloc _
  have hO : Oly g w W1 := hW1 ▸ (Only.refl _ w).alloc _
  have hkk : p.pc.kind ≠ 0 := by omega
  have hn0 : ¬ p.pc.is 1 CM.notW = true := by rw [hi0]; simp
  replace hW1 := Lib.hid hW1
  replace hO := Lib.hid hO
  unfold HoldsOut
  have c2' : w.cell? ⟨g, 2, none⟩ = some (.int .i64 5) := c2
  have hgl1 := hF.at_.lt
  clear c2
  cases hd : CM.deeperS s p with
  | error e =>
    obtain ⟨a, x⟩ := e
    have hR : CM.run s (n + 1) .part p = .error (a, x) := by simp only [CM.run]; rw [if_neg hn0, if_pos hi, hd]
    have hdp := Lib.hid (deeper_err hF hok.deep hd)
    rw [hR]
    clear h hF hok hd hR hi hk hs hi0 hn0
    go_enter Tryz.func67, Tryz.ntmps67
    go_wp2_with (go_at_call 87; rw [hW1.out]; refine hdp.out.mono ?_; rintro e w3 ⟨rfl, hO3⟩)
    all_goals exact ⟨rfl, Out.err rfl (Only.trans hO.out hO3)⟩
  | ok q =>
    obtain ⟨l1, l2, l3⟩ := CM.deeper_less hok hkk hd
    have hdp := Lib.hid (deeper_ok hF hok.deep hd)
    have hpt := fun w3 (hP : PsAt w3 g s q) => IH q w3 g ⟨hF.len, l1.le, hP⟩ l1 (by omega)
    cases hr : CM.run s n .either q with
    | error e =>
      obtain ⟨a, x⟩ := e
      have hR : CM.run s (n + 1) .part p = .error (a, x) := by simp only [CM.run]; rw [if_neg hn0, if_pos hi, hd]; simp only; rw [hr]
      have hp3 := Lib.hid (fun w3 (hP : PsAt w3 g s q) => Out.no (hpt w3 hP) hr)
      rw [hR]
      clear h hF hok hd hR hi hk hs hpt hr hi0 hn0
      go_enter Tryz.func67, Tryz.ntmps67
      go_wp2_with (first
        | (go_at_call 87; rw [hW1.out]; refine hdp.out.mono ?_; rintro e w3 ⟨rfl, hP3, hO3⟩)
        | (go_at_call 32; refine (hp3.out _ hP3).mono ?_; rintro e w4 ⟨rfl, hO4⟩))
      all_goals exact ⟨rfl, Out.err rfl (Only.trans hO.out (Only.trans hO3 hO4))⟩
    | ok fr =>
      obtain ⟨phi, r⟩ := fr
      have hp3 := Lib.hid (fun w3 (hP : PsAt w3 g s q) => Out.yes (hpt w3 hP) hr)
      have hrl := (CM.run_less s n _ _ _ _ l1 hr).1
      have hrd := hrl.deep
      have hro := hrl.ok
      rw [l2] at hrd
      have hd20 := hok.deep
      have hlen := hF.len
      replace hrd := Lib.hid hrd
      by_cases hc : r.pc.is 5 [41] = true
      · obtain ⟨rk, rs⟩ := CM.is_kind hc
        have hF5 : ∀ w4, PsAt w4 g s r → Fit s ⟨r.pc, r.at_, r.deep - 1⟩ (w4.setCell ⟨g, 6, none⟩ (.int .i64 (p.deep : Int))) g := fun w4 hP => ⟨hlen, hro.le, by
          rw [show r.deep - 1 = p.deep by have := hrd.out; omega]
          exact PsAt.dp hP p.deep⟩
        cases hn : Ps.next s ⟨r.pc, r.at_, r.deep - 1⟩ with
        | error e =>
          obtain ⟨a, x⟩ := e
          have hR : CM.run s (n + 1) .part p = .error (a, x) := by simp only [CM.run]; rw [if_neg hn0, if_pos hi, hd]; simp only; rw [hr]; simp only; rw [if_pos hc, hn]
          have hnx := Lib.hid (fun w4 (hP : PsAt w4 g s r) => next_err (hF5 w4 hP) hn)
          rw [hR]
          clear h hF hok hd hR hi hk hs hpt hr hi0 hn0 l1 l2 l3 hrl hro hc hn hF5
          go_enter Tryz.func67, Tryz.ntmps67
          go_wp2_with (first
            | (go_at_call 87; rw [hW1.out]; refine hdp.out.mono ?_; rintro e w3 ⟨rfl, hP3, hO3⟩)
            | (go_at_call 32; refine (hp3.out _ hP3).mono ?_; rintro e w4 ⟨v, rfl, hH, hP4, hO4⟩; have d6 : w4.cell? ⟨g, 6, none⟩ = some (.int .i64 ((p.deep : Int) + 1)) := (hP4.cell 6).trans (by rw [hrd.out]; rfl); have e6 := hP4.free 6; have d2 : w4.cell? ⟨g, 2, none⟩ = some (.int .i64 5) := (by have hh := hP4.facts.2.2.1; rw [rk] at hh; exact hh); have d5 : w4.cell? ⟨g, 5, none⟩ = some (strV [41]) := (by have hh := hP4.facts.2.2.2.2.2.1; rw [rs] at hh; exact hh); have hl4 := hP4.lt; replace hH := Lib.hid hH; replace hP4 := Lib.hid hP4)
            | (go_at_call 31; refine (hnx.out _ hP4.out).mono ?_; rintro e w6 ⟨rfl, hO6⟩))
          all_goals exact ⟨rfl, Out.err rfl (Only.trans hO.out (Only.trans hO3 (Only.trans hO4 (Only.trans (Oly.set (Only.refl _ w4) 6 _) hO6))))⟩
        | ok t =>
          have hR : CM.run s (n + 1) .part p = .ok (phi, t) := by simp only [CM.run]; rw [if_neg hn0, if_pos hi, hd]; simp only; rw [hr]; simp only; rw [if_pos hc, hn]
          have hnx := Lib.hid (fun w4 (hP : PsAt w4 g s r) => next_ok (hF5 w4 hP) hn)
          rw [hR]
          clear h hF hok hd hR hi hk hs hpt hr hi0 hn0 l1 l2 l3 hrl hro hc hn hF5
          go_enter Tryz.func67, Tryz.ntmps67
          go_wp2_with (first
            | (go_at_call 87; rw [hW1.out]; refine hdp.out.mono ?_; rintro e w3 ⟨rfl, hP3, hO3⟩)
            | (go_at_call 32; refine (hp3.out _ hP3).mono ?_; rintro e w4 ⟨v, rfl, hH, hP4, hO4⟩; have d6 : w4.cell? ⟨g, 6, none⟩ = some (.int .i64 ((p.deep : Int) + 1)) := (hP4.cell 6).trans (by rw [hrd.out]; rfl); have e6 := hP4.free 6; have d2 : w4.cell? ⟨g, 2, none⟩ = some (.int .i64 5) := (by have hh := hP4.facts.2.2.1; rw [rk] at hh; exact hh); have d5 : w4.cell? ⟨g, 5, none⟩ = some (strV [41]) := (by have hh := hP4.facts.2.2.2.2.2.1; rw [rs] at hh; exact hh); have hl4 := hP4.lt; replace hH := Lib.hid hH; replace hP4 := Lib.hid hP4)
            | (go_at_call 31; refine (hnx.out _ hP4.out).mono ?_; rintro e w6 ⟨rfl, hP6, hO6⟩))
          go_ret
          exact Out.ok rfl (hH.out.later (Only.trans (Oly.set (Only.refl _ w4) 6 _) hO6)) hP6 (Only.trans hO.out (Only.trans hO3 (Only.trans hO4 (Only.trans (Oly.set (Only.refl _ w4) 6 _) hO6))))
      · have hR : CM.run s (n + 1) .part p = .error (r.pc.at_, 9) := by simp only [CM.run]; rw [if_neg hn0, if_pos hi, hd]; simp only; rw [hr]; simp only; rw [if_neg hc]
        have hfl := Lib.hid (fun W => fail_any (r.pc.at_ : Int) 9 W)
        rw [hR]
        have hcc : r.pc.kind ≠ 5 ∨ r.pc.s ≠ [41] := not_is (by simpa using hc)
        clear h hF hok hd hR hi hk hs hpt hr hi0 hn0 l1 l2 l3 hrl hro hc
        by_cases rk : r.pc.kind = 5
        · have rs : (r.pc.s == [41]) = false := by
            rcases hcc with h | h
            · exact absurd rk h
            · simpa using h
          clear hcc
          go_enter Tryz.func67, Tryz.ntmps67
          go_wp2_with (first
            | (go_at_call 87; rw [hW1.out]; refine hdp.out.mono ?_; rintro e w3 ⟨rfl, hP3, hO3⟩)
            | (go_at_call 32; refine (hp3.out _ hP3).mono ?_; rintro e w4 ⟨v, rfl, hH, hP4, hO4⟩; have d2 : w4.cell? ⟨g, 2, none⟩ = some (.int .i64 5) := (by have hh := hP4.facts.2.2.1; rw [rk] at hh; exact hh); have d5 : w4.cell? ⟨g, 5, none⟩ = some (strV r.pc.s) := hP4.cell 5; have d3 : w4.cell? ⟨g, 3, none⟩ = some (.int .i64 (r.pc.at_ : Int)) := hP4.cell 3; have hl4 := hP4.lt; replace hH := Lib.hid hH; replace hP4 := Lib.hid hP4)
            | (go_at_call 46; refine (hfl.out _).mono ?_; rintro e w5 ⟨rfl, hw5⟩; subst hw5))
          all_goals exact ⟨rfl, Out.err rfl (Only.trans hO.out (Only.trans hO3 hO4))⟩
        · have rkk : ((r.pc.kind : Int) != 5) = true := by simp; omega
          clear hcc
          go_enter Tryz.func67, Tryz.ntmps67
          go_wp2_with (first
            | (go_at_call 87; rw [hW1.out]; refine hdp.out.mono ?_; rintro e w3 ⟨rfl, hP3, hO3⟩)
            | (go_at_call 32; refine (hp3.out _ hP3).mono ?_; rintro e w4 ⟨v, rfl, hH, hP4, hO4⟩; have d2 : w4.cell? ⟨g, 2, none⟩ = some (.int .i64 (r.pc.kind : Int)) := hP4.cell 2; have d3 : w4.cell? ⟨g, 3, none⟩ = some (.int .i64 (r.pc.at_ : Int)) := hP4.cell 3; have hl4 := hP4.lt; replace hH := Lib.hid hH; replace hP4 := Lib.hid hP4)
            | (go_at_call 46; refine (hfl.out _).mono ?_; rintro e w5 ⟨rfl, hw5⟩; subst hw5))
          all_goals exact ⟨rfl, Out.err rfl (Only.trans hO.out (Only.trans hO3 hO4))⟩
end Go.Proofs.YtcjcflmnghhbaaaGreat
