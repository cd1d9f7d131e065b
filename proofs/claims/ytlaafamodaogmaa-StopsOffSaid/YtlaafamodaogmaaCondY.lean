/-
  cond.parser: is, take, deeper; of chapter 27.
  Conditions: as each theorem states them.
-/
import Derived.Test.YtlaafamodaogmaaCondX
namespace Go.Proofs.Ytlaafamodaogmaa
open Go.RowKit
set_option linter.unusedVariables false
set_option linter.unusedSimpArgs false
open CM (Sv Pc Ps)
/-- what a step of the parser answers -/
def Out {α : Type} (s : List UInt8) (g : Nat) (w : World) (R : Except CM.Er (α × Ps)) (V : α → Value → World → Prop) (e : Ending) (w' : World) : Prop :=
  match R with
  | .error (a, x) => e = .panicked [broken (a : Int) x] ∧ Oly g w w'
  | .ok (y, q) => ∃ v, e = .returned v ∧ V y v w' ∧ PsAt w' g s q ∧ Oly g w w'
theorem Out.ok {α : Type} {s : List UInt8} {g : Nat} {w w' : World} {R : Except CM.Er (α × Ps)} {V : α → Value → World → Prop} {y : α} {q : Ps} {v : Value} (h : R = .ok (y, q)) (hV : V y v w') (hP : PsAt w' g s q) (hO : Oly g w w') : Out s g w R V (.returned v) w' := by
  subst h; exact ⟨v, rfl, hV, hP, hO⟩
theorem Out.err {α : Type} {s : List UInt8} {g a : Nat} {x : Int} {w w' : World} {R : Except CM.Er (α × Ps)} {V : α → Value → World → Prop} (h : R = .error (a, x)) (hO : Oly g w w') : Out s g w R V (.panicked [broken (a : Int) x]) w' := by
  subst h; exact ⟨rfl, hO⟩
/-- a text that is parsed, and a parser that stands in it -/
structure Fit (s : List UInt8) (p : Ps) (w : World) (g : Nat) : Prop where
  len : s.length ≤ 4096
  le : p.at_ ≤ s.length
  at_ : PsAt w g s p
theorem next_ok {s : List UInt8} {p q : Ps} {w : World} {g : Nat} (h : Fit s p w g) (hn : p.next s = .ok q) : Calls Try.prog 29 #[.pointer (some ⟨g, 0, none⟩)] w fun e w' => e = .returned (.tuple #[]) ∧ PsAt w' g s q ∧ Oly g w w' :=
  (next_any s h.len p h.le w g h.at_).mono fun e w' he => by unfold NextIs at he; rw [hn] at he; exact he
theorem next_err {s : List UInt8} {p : Ps} {w : World} {g a : Nat} {x : Int} (h : Fit s p w g) (hn : p.next s = .error (a, x)) : Calls Try.prog 29 #[.pointer (some ⟨g, 0, none⟩)] w fun e w' => e = .panicked [broken (a : Int) x] ∧ Oly g w w' :=
  (next_any s h.len p h.le w g h.at_).mono fun e w' he => by unfold NextIs at he; rw [hn] at he; exact he
theorem not_is {p : Ps} {k : Nat} {wd : List UInt8} (h : p.pc.is k wd = false) : p.pc.kind ≠ k ∨ p.pc.s ≠ wd := by
  unfold Pc.is at h
  by_cases hk : p.pc.kind = k
  · right; intro e; rw [hk, e] at h; simp at h
  · exact .inl hk
set_option maxHeartbeats 4000000 in
theorem is_no {s : List UInt8} {p : Ps} {k : Nat} {wd : List UInt8} {w : World} {g : Nat} (h : Fit s p w g) (hi : p.pc.is k wd = false) : Calls Try.prog 54 #[.pointer (some ⟨g, 0, none⟩), .int .i64 (k : Int), strV wd] w fun e w' => e = .returned (.bool false) ∧ w = w' := by
  obtain ⟨c0, c1, c2, c3, c4, c5, c6⟩ := h.at_.facts
  by_cases hk : p.pc.kind = k
  · have hs : p.pc.s ≠ wd := (not_is hi).elim (fun h => absurd hk h) id
    have q0 : ((p.pc.kind : Int) != (k : Int)) = false := by simp [hk]
    have q1 : (p.pc.s == wd) = false := by simpa using hs
    clear hk hs hi
    generalize p.pc.kind = kd at *
    generalize p.pc.s = ps at *
    go_enter Try.func54, Try.ntmps54
    go_wp2_with fail
    all_goals go_ret
    all_goals exact ⟨rfl, rfl⟩
  · have q0 : ((p.pc.kind : Int) != (k : Int)) = true := by simp; omega
    clear hk hi
    generalize p.pc.kind = kd at *
    go_enter Try.func54, Try.ntmps54
    go_wp2_with fail
    all_goals go_ret
    all_goals exact ⟨rfl, rfl⟩
set_option maxHeartbeats 4000000 in
theorem is_ok {s : List UInt8} {p q : Ps} {k : Nat} {wd : List UInt8} {w : World} {g : Nat} (h : Fit s p w g) (hi : p.pc.is k wd = true) (hn : p.next s = .ok q) : Calls Try.prog 54 #[.pointer (some ⟨g, 0, none⟩), .int .i64 (k : Int), strV wd] w fun e w' => e = .returned (.bool true) ∧ PsAt w' g s q ∧ Oly g w w' := by
  obtain ⟨c0, c1, c2, c3, c4, c5, c6⟩ := h.at_.facts
  obtain ⟨hk, hs⟩ := CM.is_kind hi
  have q0 : ((p.pc.kind : Int) != (k : Int)) = false := by simp [hk]
  have q1 : (p.pc.s == wd) = true := by simpa using hs
  have hnx := Lib.hid (next_ok h hn)
  clear hk hs hi hn h
  generalize p.pc.kind = kd at *
  generalize p.pc.s = ps at *
  go_enter Try.func54, Try.ntmps54
  go_wp2_with (go_at_call 29; refine hnx.out.mono ?_; rintro e w2 ⟨rfl, hP, hO⟩)
  all_goals go_ret
  all_goals exact ⟨rfl, hP, hO⟩
set_option maxHeartbeats 4000000 in
theorem is_err {s : List UInt8} {p : Ps} {k a : Nat} {x : Int} {wd : List UInt8} {w : World} {g : Nat} (h : Fit s p w g) (hi : p.pc.is k wd = true) (hn : p.next s = .error (a, x)) : Calls Try.prog 54 #[.pointer (some ⟨g, 0, none⟩), .int .i64 (k : Int), strV wd] w fun e w' => e = .panicked [broken (a : Int) x] ∧ Oly g w w' := by
  obtain ⟨c0, c1, c2, c3, c4, c5, c6⟩ := h.at_.facts
  obtain ⟨hk, hs⟩ := CM.is_kind hi
  have q0 : ((p.pc.kind : Int) != (k : Int)) = false := by simp [hk]
  have q1 : (p.pc.s == wd) = true := by simpa using hs
  have hnx := Lib.hid (next_err h hn)
  clear hk hs hi hn h
  generalize p.pc.kind = kd at *
  generalize p.pc.s = ps at *
  go_enter Try.func54, Try.ntmps54
  go_wp2_with (go_at_call 29; refine hnx.out.mono ?_; rintro e w2 ⟨rfl, hO⟩)
  all_goals exact ⟨rfl, rfl, hO⟩
end Go.Proofs.Ytlaafamodaogmaa
