/-
  Two rows of texts, two rows of files: the same?; of chapter 32.
  Conditions: as each theorem states them.
-/
import Derived.Test.YtaginadnaajleaaCRead
namespace Go.Proofs.Ytaginadnaajleaa
open Go.RowKit
set_option linter.unusedVariables false
set_option linter.unusedSimpArgs false
theorem str_ne (x y : List UInt8) : (((⟨x.toArray⟩ : ByteArray) == ⟨y.toArray⟩) = decide (x = y)) := by
  show (x.toArray == y.toArray) = _
  rw [Bool.eq_iff_iff]
  simp
/-- a row of texts, by its address -/
def TxtAt (w : World) (a : Option Addr) (ts : List (List UInt8)) : Prop := 0 < ts.length → ∃ b o, a = some ⟨b, o, none⟩ ∧ b < w.heap.size ∧ ∀ i (h : i < ts.length), w.cell? ⟨b, o + i, none⟩ = some (strV ts[i])
set_option maxHeartbeats 2000000 in
theorem texts_any (va vb : Value) (xs ys : List (List UInt8)) (w : World) (l1 : xs.length ≤ 1000000) (l2 : ys.length ≤ 1000000) (h1 : TxtsAt w va xs) (h2 : TxtsAt w vb ys) :
    Calls Try.prog 21 #[va, vb] w fun e w' => e = .returned (.bool (decide (xs = ys))) ∧ ∃ m, w' = w.drewN m := by
  obtain ⟨a1, c1, rfl, _, h1⟩ := h1
  obtain ⟨a2, c2, rfl, _, h2⟩ := h2
  replace h1 : TxtAt w a1 xs := h1
  replace h2 : TxtAt w a2 ys := h2
  by_cases hl : xs.length = ys.length
  · have hret : ∀ b, decide (xs = ys) = b → (Ending.returned (.bool b)) = .returned (.bool (decide (xs = ys))) := fun b e => by rw [e]
    generalize hn : xs.length = n at *
    have hy : n = ys.length := hl
    clear hl
    rw [← hy]
    replace h1 := Lib.hid h1
    replace h2 := Lib.hid h2
    replace hn := Lib.hid hn
    replace hy := Lib.hid hy
    replace hret := Lib.hid hret
    clear l2
    have hq : ((n : Int) != n) = false := by simp
    go_enter Try.func21, Try.ntmps21
    go_wp2_with fail
    go_loopg [5] n (fun gh i wr => ∃ k : Nat, gh = n - k ∧ i = .int .i64 (k : Int) ∧ k ≤ n ∧ Hid (xs.take k = ys.take k) ∧ ∃ m, Hid (wr = w.drewN m))
    case atStart => exact ⟨0, rfl, rfl, by omega, Lib.hid (by simp), 0, Lib.hid rfl⟩
    case round =>
      obtain ⟨k, rfl, rfl, hk, ht, m, hm⟩ := hrel
      by_cases hlt : k < n
      · have k1 : k < xs.length := by rw [hn.out]; exact hlt
        have k2 : k < ys.length := by rw [← hy.out]; exact hlt
        obtain ⟨p, o, rfl, hp, hr⟩ := h1.out (by omega)
        obtain ⟨p', o', rfl, hp', hr'⟩ := h2.out (by omega)
        have e1 : wr.cell? ⟨p, o + k, none⟩ = some (strV xs[k]) := by rw [hm.out]; exact hr k k1
        have e2 : wr.cell? ⟨p', o' + k, none⟩ = some (strV ys[k]) := by rw [hm.out]; exact hr' k k2
        clear hr hr'
        unfold strV at e1 e2
        by_cases hc : xs[k] = ys[k]
        · have q1 := str_ne xs[k] ys[k]
          rw [decide_eq_true hc] at q1
          have hte := Lib.hid (take_eq k1 k2 ht.out hc)
          clear hc ht
          generalize (⟨xs[k].toArray⟩ : ByteArray) = x at *
          generalize (⟨ys[k].toArray⟩ : ByteArray) = y at *
          rw [beq_toListBytes] at q1
          go_wp2_with (go_quiet (fail))
          all_goals go_roundg (n - (k + 1))
          case measure => omega
          case rel => exact ⟨k + 1, rfl, by go_num, by omega, hte, _, Lib.hid (by rw [hm.out, World.drewN_drewN])⟩
        · have q1 := str_ne xs[k] ys[k]
          rw [decide_eq_false hc] at q1
          have hte := Lib.hid (take_ne k1 k2 hc)
          clear hc ht
          generalize (⟨xs[k].toArray⟩ : ByteArray) = x at *
          generalize (⟨ys[k].toArray⟩ : ByteArray) = y at *
          rw [beq_toListBytes] at q1
          go_wp2_with (go_quiet (fail))
          all_goals go_ret
          all_goals exact ⟨hret.out _ (decide_eq_false hte.out), _, by rw [hm.out, World.drewN_drewN]⟩
      · obtain rfl : k = n := by omega
        have hte : xs = ys := by
          have := ht.out
          rwa [List.take_of_length_le (by rw [hn.out]; exact Nat.le_refl _), List.take_of_length_le (by rw [← hy.out]; exact Nat.le_refl _)] at this
        replace hte := Lib.hid hte
        clear ht
        go_wp2_with fail
        go_ret
        exact ⟨hret.out _ (decide_eq_true hte.out), m, hm.out⟩
  · have hne : xs ≠ ys := fun e => hl (by rw [e])
    have hq : ((xs.length : Int) != ys.length) = true := by simp; omega
    replace hne := Lib.hid (ret_bool (decide_eq_false hne)).symm
    go_enter Try.func21, Try.ntmps21
    go_wp2_with fail
    all_goals go_ret
    all_goals exact ⟨hne.out, 0, rfl⟩
end Go.Proofs.Ytaginadnaajleaa
