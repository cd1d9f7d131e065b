/-
  palinoderef01.Same at any two rows of bytes; of chapter 32.
  Conditions: as each theorem states them.
-/
import Derived.Test.YtcjcflmnghhbaaaGreatMapSe
import Derived.Deep.LoopGhost
namespace Go.Proofs.YtcjcflmnghhbaaaGreat
open Go.RowKit
set_option linter.unusedVariables false
set_option linter.unusedSimpArgs false
theorem take_ne {α : Type} {xs ys : List α} {k : Nat} (h1 : k < xs.length) (h2 : k < ys.length) (h : xs[k] ≠ ys[k]) : xs ≠ ys := fun e => h (by subst e; rfl)
theorem take_eq {α : Type} {xs ys : List α} {k : Nat} (h1 : k < xs.length) (h2 : k < ys.length) (ht : xs.take k = ys.take k) (h : xs[k] = ys[k]) : xs.take (k + 1) = ys.take (k + 1) := by
  rw [List.take_succ_eq_append_getElem h1, List.take_succ_eq_append_getElem h2, ht, h]
set_option maxHeartbeats 2000000 in
theorem same_bytes (a1 a2 : Option Addr) (c1 c2 : Nat) (xs ys : List UInt8) (w : World) (l1 : xs.length ≤ 140737488351232) (l2 : ys.length ≤ 140737488351232) (h1 : BytesAt w a1 xs) (h2 : BytesAt w a2 ys) :
    Calls Tryz.prog 43 #[.slice a1 xs.length c1, .slice a2 ys.length c2] w fun e w' => e = .returned (.bool (decide (xs = ys))) ∧ ∃ m, w' = w.drewN m := by
  by_cases hl : xs.length = ys.length
  · have hret : ∀ b, decide (xs = ys) = b → (Ending.returned (.bool b)) = .returned (.bool (decide (xs = ys))) := fun b e => by rw [e]
    generalize hn : xs.length = n at *
    have hy : n = ys.length := hl
    clear hl
    rw [← hy]
    replace h1 := Lib.hid h1
    replace h2 := Lib.hid h2
    replace hn := Lib.hid hn
    replace hy := Lib.hid hy
    replace hret := Lib.hid hret
    clear l2
    have hq : ((n : Int) != n) = false := by simp
    go_enter Tryz.func43, Tryz.ntmps43
    go_wp2_with fail
    go_loopg [5] n (fun gh i wr => ∃ k : Nat, gh = n - k ∧ i = .int .i64 (k : Int) ∧ k ≤ n ∧ Hid (xs.take k = ys.take k) ∧ ∃ m, Hid (wr = w.drewN m))
    case atStart => exact ⟨0, rfl, rfl, by omega, Lib.hid (by simp), 0, Lib.hid rfl⟩
    case round =>
      obtain ⟨k, rfl, rfl, hk, ht, m, hm⟩ := hrel
      by_cases hlt : k < n
      · have k1 : k < xs.length := by rw [hn.out]; exact hlt
        have k2 : k < ys.length := by rw [← hy.out]; exact hlt
        obtain ⟨p, o, rfl, hp, hr⟩ := h1.out (by omega)
        obtain ⟨p', o', rfl, hp', hr'⟩ := h2.out (by omega)
        have e1 : wr.cell? ⟨p, o + k, none⟩ = some (.int .u8 (xs[k].toNat : Int)) := by rw [hm.out]; exact hr k k1
        have e2 : wr.cell? ⟨p', o' + k, none⟩ = some (.int .u8 (ys[k].toNat : Int)) := by rw [hm.out]; exact hr' k k2
        clear hr hr'
        by_cases hc : xs[k] = ys[k]
        · have q1 : ((xs[k].toNat : Int) != (ys[k].toNat : Int)) = false := by rw [hc]; simp
          have hte := Lib.hid (take_eq k1 k2 ht.out hc)
          clear hc ht
          generalize xs[k].toNat = x at *
          generalize ys[k].toNat = y at *
          go_wp2_with (go_quiet (fail))
          all_goals go_roundg (n - (k + 1))
          case measure => omega
          case rel => exact ⟨k + 1, rfl, by go_num, by omega, hte, _, Lib.hid (by rw [hm.out, World.drewN_drewN])⟩
        · have q1 : ((xs[k].toNat : Int) != (ys[k].toNat : Int)) = true := by simp; intro e; exact hc (UInt8.toNat_inj.1 (by omega))
          have hte := Lib.hid (take_ne k1 k2 hc)
          clear hc ht
          generalize xs[k].toNat = x at *
          generalize ys[k].toNat = y at *
          go_wp2_with (go_quiet (fail))
          all_goals go_ret
          all_goals exact ⟨hret.out _ (decide_eq_false hte.out), _, by rw [hm.out, World.drewN_drewN]⟩
      · obtain rfl : k = n := by omega
        have hte : xs = ys := by
          have := ht.out
          rwa [List.take_of_length_le (by rw [hn.out]; exact Nat.le_refl _), List.take_of_length_le (by rw [← hy.out]; exact Nat.le_refl _)] at this
        replace hte := Lib.hid hte
        clear ht
        go_wp2_with fail
        go_ret
        exact ⟨hret.out _ (decide_eq_true hte.out), m, hm.out⟩
  · have hne : xs ≠ ys := fun e => hl (by rw [e])
    have hq : ((xs.length : Int) != ys.length) = true := by simp; omega
    replace hne := Lib.hid (ret_bool (decide_eq_false hne)).symm
    go_enter Tryz.func43, Tryz.ntmps43
    go_wp2_with fail
    all_goals go_ret
    all_goals exact ⟨hne.out, 0, rfl⟩
end Go.Proofs.YtcjcflmnghhbaaaGreat
