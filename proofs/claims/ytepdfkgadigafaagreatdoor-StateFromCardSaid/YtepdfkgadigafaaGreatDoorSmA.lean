/-
  palinoderef01.Same at any two rows of bytes; of chapter 32.
  Conditions: as each theorem states them.
-/
import Derived.Test.YtepdfkgadigafaaGreatDoorMem
import Derived.Test.YtepdfkgadigafaaGreatDoorProg
import Derived.Deep.LoopGhost
import Derived.Deep.QuietTactic
import Derived.BigQuiet
namespace Go.Proofs.YtepdfkgadigafaaGreatDoor
open Go.RowKit
set_option linter.unusedVariables false
set_option linter.unusedSimpArgs false
theorem take_ne {α : Type} {xs ys : List α} {k : Nat} (h1 : k < xs.length) (h2 : k < ys.length) (h : xs[k] ≠ ys[k]) : xs ≠ ys := fun e => h (by subst e; rfl)
theorem take_eq {α : Type} {xs ys : List α} {k : Nat} (h1 : k < xs.length) (h2 : k < ys.length) (ht : xs.take k = ys.take k) (h : xs[k] = ys[k]) : xs.take (k + 1) = ys.take (k + 1) := by
  rw [List.take_succ_eq_append_getElem h1, List.take_succ_eq_append_getElem h2, ht, h]
set_option maxHeartbeats 2000000 in
theorem same_bytes (a1 a2 : Option Addr) (c1 c2 : Nat) (xs ys : List UInt8) (w : World) (l1 : xs.length ≤ 140737488351232) (l2 : ys.length ≤ 140737488351232) (h1 : BytesAt w a1 xs) (h2 : BytesAt w a2 ys) :
    Calls Tryz.prog 38 #[.slice a1 xs.length c1, .slice a2 ys.length c2] w fun e w' => e = .returned (.bool (decide (xs = ys))) ∧ ∃ m, w' = w.drewN m := by
  by_cases hl : xs.length = ys.length
  · have hret : ∀ b, decide (xs = ys) = b → (Ending.returned (.bool b)) = .returned (.bool (decide (xs = ys))) := fun b e => by rw [e]
    generalize hn : xs.length = n at *
    have hy : n = ys.length := hl
    clear hl
    rw [← hy]
    replace h1 := Lib.hid h1
    replace h2 := Lib.hid h2
    replace hn := Lib.hid hn
    replace hy := Lib.hid hy
    replace hret := Lib.hid hret
    clear l2
    have hq : ((n : Int) != n) = false := by simp
    go_enter Tryz.func38, Tryz.ntmps38
    go_wp2_with fail
    go_loopg [5] n (fun gh i wr => ∃ k : Nat, gh = n - k ∧ i = .int .i64 (k : Int) ∧ k ≤ n ∧ Hid (xs.take k = ys.take k) ∧ ∃ m, Hid (wr = w.drewN m))
    case atStart => exact ⟨0, rfl, rfl, by omega, Lib.hid (by simp), 0, Lib.hid rfl⟩
    case round =>
      obtain ⟨k, rfl, rfl, hk, ht, m, hm⟩ := hrel
      by_cases hlt : k < n
      · have k1 : k < xs.length := by rw [hn.out]; exact hlt
        have k2 : k < ys.length := by rw [← hy.out]; exact hlt
        obtain ⟨p, o, rfl, hp, hr⟩ := h1.out (by omega)
        obtain ⟨p', o', rfl, hp', hr'⟩ := h2.out (by omega)
        have e1 : wr.cell? ⟨p, o + k, none⟩ = some (.int .u8 (xs[k].toNat : Int)) := by rw [hm.out]; exact hr k k1
        have e2 : wr.cell? ⟨p', o' + k, none⟩ = some (.int .u8 (ys[k].toNat : Int)) := by rw [hm.out]; exact hr' k k2
        clear hr hr'
        by_cases hc : xs[k] = ys[k]
        · have q1 : ((xs[k].toNat : Int) != (ys[k].toNat : Int)) = false := by rw [hc]; simp
          have hte := Lib.hid (take_eq k1 k2 ht.out hc)
          clear hc ht
          generalize xs[k].toNat = x at *
          generalize ys[k].toNat = y at *
          go_wp2_with (go_quiet (fail))
          all_goals go_roundg (n - (k + 1))
          case measure => omega
          case rel => exact ⟨k + 1, rfl, by go_num, by omega, hte, _, Lib.hid (by rw [hm.out, World.drewN_drewN])⟩
        · have q1 : ((xs[k].toNat : Int) != (ys[k].toNat : Int)) = true := by simp; intro e; exact hc (UInt8.toNat_inj.1 (by omega))
          have hte := Lib.hid (take_ne k1 k2 hc)
          clear hc ht
          generalize xs[k].toNat = x at *
          generalize ys[k].toNat = y at *
          go_wp2_with (go_quiet (fail))
          all_goals go_ret
          all_goals exact ⟨hret.out _ (decide_eq_false hte.out), _, by rw [hm.out, World.drewN_drewN]⟩
      · obtain rfl : k = n := by omega
        have hte : xs = ys := by
          have := ht.out
          rwa [List.take_of_length_le (by rw [hn.out]; exact Nat.le_refl _), List.take_of_length_le (by rw [← hy.out]; exact Nat.le_refl _)] at this
        replace hte := Lib.hid hte
        clear ht
        go_wp2_with fail
        go_ret
        exact ⟨hret.out _ (decide_eq_true hte.out), m, hm.out⟩
  · have hne : xs ≠ ys := fun e => hl (by rw [e])
    have hq : ((xs.length : Int) != ys.length) = true := by simp; omega
    replace hne := Lib.hid (ret_bool (decide_eq_false hne)).symm
    go_enter Tryz.func38, Tryz.ntmps38
    go_wp2_with fail
    all_goals go_ret
    all_goals exact ⟨hne.out, 0, rfl⟩
end Go.Proofs.YtepdfkgadigafaaGreatDoor
/-
  palinoderef20.Bools at any two rows of truths; of chapter 20.
  Conditions: as each theorem states them.
-/
namespace Go.Proofs.YtepdfkgadigafaaGreatDoor
open Go.RowKit
set_option linter.unusedVariables false
set_option linter.unusedSimpArgs false
def BoolsAt (w : World) (ba : Option Addr) (xs : List Bool) : Prop := 0 < xs.length → ∃ p o, ba = some ⟨p, o, none⟩ ∧ p < w.heap.size ∧ ∀ i (h : i < xs.length), w.cell? ⟨p, o + i, none⟩ = some (.bool xs[i])
theorem BlI.at {lo hi : Nat} {W : World} {s : Sl3} {t : List Bool} (h : BlI lo hi W s t) (hh : hi ≤ W.heap.size) : BoolsAt W s.a t := fun h0 => by
  obtain ⟨p, o, e, h1, h2, h3⟩ := h.2.2.2 (by simpa using h0)
  exact ⟨p, o, e, by omega, fun i hi => by rw [(h3 i (by simpa using hi)).1]; simp⟩
set_option maxHeartbeats 2000000 in
theorem same_bools (a1 a2 : Option Addr) (c1 c2 : Nat) (xs ys : List Bool) (w : World) (l1 : xs.length ≤ 140737488351232) (l2 : ys.length ≤ 140737488351232) (h1 : BoolsAt w a1 xs) (h2 : BoolsAt w a2 ys) :
    Calls Tryz.prog 40 #[.slice a1 xs.length c1, .slice a2 ys.length c2] w fun e w' => e = .returned (.bool (decide (xs = ys))) ∧ ∃ m, w' = w.drewN m := by
  by_cases hl : xs.length = ys.length
  · have hret : ∀ b, decide (xs = ys) = b → (Ending.returned (.bool b)) = .returned (.bool (decide (xs = ys))) := fun b e => by rw [e]
    generalize hn : xs.length = n at *
    have hy : n = ys.length := hl
    clear hl
    rw [← hy]
    replace h1 := Lib.hid h1
    replace h2 := Lib.hid h2
    replace hn := Lib.hid hn
    replace hy := Lib.hid hy
    replace hret := Lib.hid hret
    clear l2
    have hq : ((n : Int) != n) = false := by simp
    go_enter Tryz.func40, Tryz.ntmps40
    go_wp2_with fail
    go_loopg [5] n (fun gh i wr => ∃ k : Nat, gh = n - k ∧ i = .int .i64 (k : Int) ∧ k ≤ n ∧ Hid (xs.take k = ys.take k) ∧ ∃ m, Hid (wr = w.drewN m))
    case atStart => exact ⟨0, rfl, rfl, by omega, Lib.hid (by simp), 0, Lib.hid rfl⟩
    case round =>
      obtain ⟨k, rfl, rfl, hk, ht, m, hm⟩ := hrel
      by_cases hlt : k < n
      · have k1 : k < xs.length := by rw [hn.out]; exact hlt
        have k2 : k < ys.length := by rw [← hy.out]; exact hlt
        obtain ⟨p, o, rfl, hp, hr⟩ := h1.out (by omega)
        obtain ⟨p', o', rfl, hp', hr'⟩ := h2.out (by omega)
        have e1 : wr.cell? ⟨p, o + k, none⟩ = some (.bool xs[k]) := by rw [hm.out]; exact hr k k1
        have e2 : wr.cell? ⟨p', o' + k, none⟩ = some (.bool ys[k]) := by rw [hm.out]; exact hr' k k2
        clear hr hr'
        by_cases hc : xs[k] = ys[k]
        · rw [hc] at e1
          have hte := Lib.hid (take_eq k1 k2 ht.out hc)
          clear hc ht
          generalize ys[k] = y at e1 e2
          cases y
          all_goals go_wp2_with (go_quiet (fail))
          all_goals go_roundg (n - (k + 1))
          all_goals first | exact ⟨k + 1, rfl, by go_num, by omega, hte, _, Lib.hid (by rw [hm.out, World.drewN_drewN])⟩ | omega
        · rw [show xs[k] = !ys[k] by revert hc; cases xs[k] <;> cases ys[k] <;> simp] at e1
          have hte := Lib.hid (take_ne k1 k2 hc)
          clear hc ht
          generalize ys[k] = y at e1 e2
          cases y
          all_goals go_wp2_with (go_quiet (fail))
          all_goals go_ret
          all_goals exact ⟨hret.out _ (decide_eq_false hte.out), _, by rw [hm.out, World.drewN_drewN]⟩
      · obtain rfl : k = n := by omega
        have hte : xs = ys := by
          have := ht.out
          rwa [List.take_of_length_le (by rw [hn.out]; exact Nat.le_refl _), List.take_of_length_le (by rw [← hy.out]; exact Nat.le_refl _)] at this
        replace hte := Lib.hid hte
        clear ht
        go_wp2_with fail
        go_ret
        exact ⟨hret.out _ (decide_eq_true hte.out), m, hm.out⟩
  · have hne : xs ≠ ys := fun e => hl (by rw [e])
    have hq : ((xs.length : Int) != ys.length) = true := by simp; omega
    replace hne := Lib.hid (ret_bool (decide_eq_false hne)).symm
    go_enter Tryz.func40, Tryz.ntmps40
    go_wp2_with fail
    all_goals go_ret
    all_goals exact ⟨hne.out, 0, rfl⟩
end Go.Proofs.YtepdfkgadigafaaGreatDoor
/-
  Rows of pairs of two states: the same?; of chapter 20.
  Conditions: as each theorem states them.
-/
namespace Go.Proofs.YtepdfkgadigafaaGreatDoor
open Go.RowKit
set_option linter.unusedVariables false
set_option linter.unusedSimpArgs false
theorem str_ne (x y : List UInt8) : (((⟨x.toArray⟩ : ByteArray) == ⟨y.toArray⟩) = decide (x = y)) := by
  show (x.toArray == y.toArray) = _
  rw [Bool.eq_iff_iff]
  simp
/-- a row of pairs, by its address -/
def PrsAt {α : Type} (f : α → Value) (w : World) (a : Option Addr) (l : List (α × List UInt8)) : Prop := 0 < l.length → ∃ b o, a = some ⟨b, o, none⟩ ∧ b < w.heap.size ∧ ∀ i (h : i < l.length), w.cell? ⟨b, o + i * 2, none⟩ = some (f l[i].1) ∧ ∃ b1 d1, w.cell? ⟨b, o + i * 2 + 1, none⟩ = some (.slice b1 l[i].2.length d1) ∧ BytesAt w b1 l[i].2
theorem PrI.at {α : Type} {f : α → Value} {lo hi : Nat} {W : World} {s : Sl3} {l : List (α × List UInt8)} (h : PrI f lo hi W s l) (hh : hi ≤ W.heap.size) : PrsAt f W s.a l := fun h0 => by
  obtain ⟨h1, h2, h3, ss, h4, h5, h6⟩ := h
  have hl : (pairCells ((l.map fun p => f p.1).zip ss)).length = l.length * 2 := by rw [pairs_len]; simp; omega
  obtain ⟨p, o, e, k1, k2, k3⟩ := h5 (by omega)
  refine ⟨p, o, e, by omega, fun i hi => ?_⟩
  have hg := pairs_get ((l.map fun p => f p.1).zip ss) i (by simp; omega)
  have c0 := (k3 (i * 2) (by omega)).1
  have c1 := (k3 (i * 2 + 1) (by omega)).1
  rw [List.getElem?_eq_getElem (by omega)] at hg
  rw [List.getElem?_eq_getElem (by omega)] at hg
  have g0 := Option.some.inj hg.1
  have g1 := Option.some.inj hg.2
  have ht := h6 i hi (by omega)
  refine ⟨by rw [c0, g0]; simp, (ss[i]).a, (ss[i]).c, ?_, ht.at hh⟩
  rw [show o + i * 2 + 1 = o + (i * 2 + 1) by omega, c1, g1, ← ht.1]
  simp
set_option maxHeartbeats 2000000 in
theorem same_files (a1 a2 : Option Addr) (c1 c2 : Nat) (xs ys : List (List UInt8 × List UInt8)) (w : World) (l1 : xs.length ≤ 1000000) (l2 : ys.length ≤ 1000000) (hx : ∀ p ∈ xs, p.2.length ≤ 1000000) (hz : ∀ p ∈ ys, p.2.length ≤ 1000000) (h1 : PrsAt strV w a1 xs) (h2 : PrsAt strV w a2 ys) :
    Calls Tryz.prog 42 #[.slice a1 xs.length c1, .slice a2 ys.length c2] w fun e w' => e = .returned (.bool (decide (xs = ys))) ∧ ∃ m, w' = w.drewN m := by
  by_cases hl : xs.length = ys.length
  · have hret : ∀ b, decide (xs = ys) = b → (Ending.returned (.bool b)) = .returned (.bool (decide (xs = ys))) := fun b e => by rw [e]
    generalize hn : xs.length = n at *
    have hy : n = ys.length := hl
    clear hl
    rw [← hy]
    replace h1 := Lib.hid h1
    replace h2 := Lib.hid h2
    replace hn := Lib.hid hn
    replace hy := Lib.hid hy
    replace hret := Lib.hid hret
    replace hx := Lib.hid hx
    replace hz := Lib.hid hz
    clear l2
    have hq : ((n : Int) != n) = false := by simp
    go_enter Tryz.func42, Tryz.ntmps42
    go_wp2_with fail
    go_loopg [5] n (fun gh i wr => ∃ k : Nat, gh = n - k ∧ i = .int .i64 (k : Int) ∧ k ≤ n ∧ Hid (xs.take k = ys.take k) ∧ ∃ m, Hid (wr = w.drewN m))
    case atStart => exact ⟨0, rfl, rfl, by omega, Lib.hid (by simp), 0, Lib.hid rfl⟩
    case round =>
      obtain ⟨k, rfl, rfl, hk, ht, m, hm⟩ := hrel
      by_cases hlt : k < n
      · have k1 : k < xs.length := by rw [hn.out]; exact hlt
        have k2 : k < ys.length := by rw [← hy.out]; exact hlt
        obtain ⟨p, o, rfl, hp, hr⟩ := h1.out (by omega)
        obtain ⟨p', o', rfl, hp', hr'⟩ := h2.out (by omega)
        obtain ⟨e1, b1, d1, e2, hu1⟩ := hr k k1
        obtain ⟨e3, b2, d2, e4, hu2⟩ := hr' k k2
        clear hr hr'
        have eW : ∀ a, wr.cell? a = w.cell? a := fun a => by rw [hm.out]; simp
        rw [← eW] at e1 e2 e3 e4
        clear eW
        unfold strV at e1 e3
        have z1 := hx.out _ (List.getElem_mem k1)
        have z2 := hz.out _ (List.getElem_mem k2)
        have hib : (k : Int) < (n : Int) := by omega
        have q1 := str_ne xs[k].1 ys[k].1
        have hs := fun m => same_bytes b1 b2 d1 d2 xs[k].2 ys[k].2 (wr.drewN m) (by omega) (by omega) (by rw [hm.out]; exact (hu1.below (bl_drewN (Below.refl _ _) _)).below (bl_drewN (Below.refl _ _) _)) (by rw [hm.out]; exact (hu2.below (bl_drewN (Below.refl _ _) _)).below (bl_drewN (Below.refl _ _) _))
        have hte1 : xs[k].1 ≠ ys[k].1 → xs ≠ ys := fun h => take_ne k1 k2 (fun e => h (by rw [e]))
        have hte2 : xs[k].2 ≠ ys[k].2 → xs ≠ ys := fun h => take_ne k1 k2 (fun e => h (by rw [e]))
        have hte3 : xs[k].1 = ys[k].1 → xs[k].2 = ys[k].2 → xs.take (k + 1) = ys.take (k + 1) := fun h h' => take_eq k1 k2 ht.out (Prod.ext h h')
        clear hu1 hu2
        by_cases hc : xs[k].1 = ys[k].1
        · rw [decide_eq_true hc] at q1
          generalize (⟨xs[k].1.toArray⟩ : ByteArray) = x at *
          generalize (⟨ys[k].1.toArray⟩ : ByteArray) = y at *
          rw [beq_toListBytes] at q1
          obtain ⟨n1, hn1⟩ : ∃ n1, xs[k].2.length = n1 := ⟨_, rfl⟩
          obtain ⟨n2, hn2⟩ : ∃ n2, ys[k].2.length = n2 := ⟨_, rfl⟩
          rw [hn1] at e2
          rw [hn2] at e4
          rw [hn1, hn2] at hs
          by_cases hd : xs[k].2 = ys[k].2
          · have hte := Lib.hid (hte3 hc hd)
            rw [decide_eq_true hd] at hs
            replace hs := Lib.hid hs
            clear hte1 hte2 hte3 hc hd z1 z2 hn1 hn2 ht
            go_wp2_with (go_quiet ((go_at_call 38; exact Calls.quiet_of (hs.out _))))
            all_goals go_roundg (n - (k + 1))
            case measure => omega
            case rel => exact ⟨k + 1, rfl, by go_num, by omega, hte, _, Lib.hid (by rw [hm.out, World.drewN_drewN])⟩
          · have hte := Lib.hid (hte2 hd)
            rw [decide_eq_false hd] at hs
            replace hs := Lib.hid hs
            clear hte1 hte2 hte3 hc hd z1 z2 hn1 hn2 ht
            go_wp2_with (go_quiet ((go_at_call 38; exact Calls.quiet_of (hs.out _))))
            all_goals go_ret
            all_goals exact ⟨hret.out _ (decide_eq_false hte.out), _, by rw [hm.out, World.drewN_drewN]⟩
        · rw [decide_eq_false hc] at q1
          have hte := Lib.hid (hte1 hc)
          clear hte1 hte2 hte3 hc z1 z2 hs ht
          generalize (⟨xs[k].1.toArray⟩ : ByteArray) = x at *
          generalize (⟨ys[k].1.toArray⟩ : ByteArray) = y at *
          rw [beq_toListBytes] at q1
          go_wp2_with (go_quiet (fail))
          all_goals go_ret
          all_goals exact ⟨hret.out _ (decide_eq_false hte.out), _, by rw [hm.out, World.drewN_drewN]⟩
      · obtain rfl : k = n := by omega
        have hte : xs = ys := by
          have := ht.out
          rwa [List.take_of_length_le (by rw [hn.out]; exact Nat.le_refl _), List.take_of_length_le (by rw [← hy.out]; exact Nat.le_refl _)] at this
        replace hte := Lib.hid hte
        clear ht
        go_wp2_with fail
        go_ret
        exact ⟨hret.out _ (decide_eq_true hte.out), m, hm.out⟩
  · have hne : xs ≠ ys := fun e => hl (by rw [e])
    have hq : ((xs.length : Int) != ys.length) = true := by simp; omega
    replace hne := Lib.hid (ret_bool (decide_eq_false hne)).symm
    go_enter Tryz.func42, Tryz.ntmps42
    go_wp2_with fail
    all_goals go_ret
    all_goals exact ⟨hne.out, 0, rfl⟩
set_option maxHeartbeats 2000000 in
theorem same_waits (a1 a2 : Option Addr) (c1 c2 : Nat) (xs ys : List (Int × List UInt8)) (w : World) (l1 : xs.length ≤ 1000000) (l2 : ys.length ≤ 1000000) (hx : ∀ p ∈ xs, p.2.length ≤ 1000000) (hz : ∀ p ∈ ys, p.2.length ≤ 1000000) (h1 : PrsAt kindV w a1 xs) (h2 : PrsAt kindV w a2 ys) :
    Calls Tryz.prog 41 #[.slice a1 xs.length c1, .slice a2 ys.length c2] w fun e w' => e = .returned (.bool (decide (xs = ys))) ∧ ∃ m, w' = w.drewN m := by
  by_cases hl : xs.length = ys.length
  · have hret : ∀ b, decide (xs = ys) = b → (Ending.returned (.bool b)) = .returned (.bool (decide (xs = ys))) := fun b e => by rw [e]
    generalize hn : xs.length = n at *
    have hy : n = ys.length := hl
    clear hl
    rw [← hy]
    replace h1 := Lib.hid h1
    replace h2 := Lib.hid h2
    replace hn := Lib.hid hn
    replace hy := Lib.hid hy
    replace hret := Lib.hid hret
    replace hx := Lib.hid hx
    replace hz := Lib.hid hz
    clear l2
    have hq : ((n : Int) != n) = false := by simp
    go_enter Tryz.func41, Tryz.ntmps41
    go_wp2_with fail
    go_loopg [5] n (fun gh i wr => ∃ k : Nat, gh = n - k ∧ i = .int .i64 (k : Int) ∧ k ≤ n ∧ Hid (xs.take k = ys.take k) ∧ ∃ m, Hid (wr = w.drewN m))
    case atStart => exact ⟨0, rfl, rfl, by omega, Lib.hid (by simp), 0, Lib.hid rfl⟩
    case round =>
      obtain ⟨k, rfl, rfl, hk, ht, m, hm⟩ := hrel
      by_cases hlt : k < n
      · have k1 : k < xs.length := by rw [hn.out]; exact hlt
        have k2 : k < ys.length := by rw [← hy.out]; exact hlt
        obtain ⟨p, o, rfl, hp, hr⟩ := h1.out (by omega)
        obtain ⟨p', o', rfl, hp', hr'⟩ := h2.out (by omega)
        obtain ⟨e1, b1, d1, e2, hu1⟩ := hr k k1
        obtain ⟨e3, b2, d2, e4, hu2⟩ := hr' k k2
        clear hr hr'
        have eW : ∀ a, wr.cell? a = w.cell? a := fun a => by rw [hm.out]; simp
        rw [← eW] at e1 e2 e3 e4
        clear eW
        unfold kindV at e1 e3
        have z1 := hx.out _ (List.getElem_mem k1)
        have z2 := hz.out _ (List.getElem_mem k2)
        have hib : (k : Int) < (n : Int) := by omega
        have q1 : (xs[k].1 != ys[k].1) = !decide (xs[k].1 = ys[k].1) := rfl
        have hs := fun m => same_bytes b1 b2 d1 d2 xs[k].2 ys[k].2 (wr.drewN m) (by omega) (by omega) (by rw [hm.out]; exact (hu1.below (bl_drewN (Below.refl _ _) _)).below (bl_drewN (Below.refl _ _) _)) (by rw [hm.out]; exact (hu2.below (bl_drewN (Below.refl _ _) _)).below (bl_drewN (Below.refl _ _) _))
        have hte1 : xs[k].1 ≠ ys[k].1 → xs ≠ ys := fun h => take_ne k1 k2 (fun e => h (by rw [e]))
        have hte2 : xs[k].2 ≠ ys[k].2 → xs ≠ ys := fun h => take_ne k1 k2 (fun e => h (by rw [e]))
        have hte3 : xs[k].1 = ys[k].1 → xs[k].2 = ys[k].2 → xs.take (k + 1) = ys.take (k + 1) := fun h h' => take_eq k1 k2 ht.out (Prod.ext h h')
        clear hu1 hu2
        by_cases hc : xs[k].1 = ys[k].1
        · rw [decide_eq_true hc] at q1
          generalize xs[k].1 = x at e1 q1
          generalize ys[k].1 = y at e3 q1
          obtain ⟨n1, hn1⟩ : ∃ n1, xs[k].2.length = n1 := ⟨_, rfl⟩
          obtain ⟨n2, hn2⟩ : ∃ n2, ys[k].2.length = n2 := ⟨_, rfl⟩
          rw [hn1] at e2
          rw [hn2] at e4
          rw [hn1, hn2] at hs
          by_cases hd : xs[k].2 = ys[k].2
          · have hte := Lib.hid (hte3 hc hd)
            rw [decide_eq_true hd] at hs
            replace hs := Lib.hid hs
            clear hte1 hte2 hte3 hc hd z1 z2 hn1 hn2 ht
            go_wp2_with (go_quiet ((go_at_call 38; exact Calls.quiet_of (hs.out _))))
            all_goals go_roundg (n - (k + 1))
            case measure => omega
            case rel => exact ⟨k + 1, rfl, by go_num, by omega, hte, _, Lib.hid (by rw [hm.out, World.drewN_drewN])⟩
          · have hte := Lib.hid (hte2 hd)
            rw [decide_eq_false hd] at hs
            replace hs := Lib.hid hs
            clear hte1 hte2 hte3 hc hd z1 z2 hn1 hn2 ht
            go_wp2_with (go_quiet ((go_at_call 38; exact Calls.quiet_of (hs.out _))))
            all_goals go_ret
            all_goals exact ⟨hret.out _ (decide_eq_false hte.out), _, by rw [hm.out, World.drewN_drewN]⟩
        · rw [decide_eq_false hc] at q1
          have hte := Lib.hid (hte1 hc)
          clear hte1 hte2 hte3 hc z1 z2 hs ht
          generalize xs[k].1 = x at e1 q1
          generalize ys[k].1 = y at e3 q1
          go_wp2_with (go_quiet (fail))
          all_goals go_ret
          all_goals exact ⟨hret.out _ (decide_eq_false hte.out), _, by rw [hm.out, World.drewN_drewN]⟩
      · obtain rfl : k = n := by omega
        have hte : xs = ys := by
          have := ht.out
          rwa [List.take_of_length_le (by rw [hn.out]; exact Nat.le_refl _), List.take_of_length_le (by rw [← hy.out]; exact Nat.le_refl _)] at this
        replace hte := Lib.hid hte
        clear ht
        go_wp2_with fail
        go_ret
        exact ⟨hret.out _ (decide_eq_true hte.out), m, hm.out⟩
  · have hne : xs ≠ ys := fun e => hl (by rw [e])
    have hq : ((xs.length : Int) != ys.length) = true := by simp; omega
    replace hne := Lib.hid (ret_bool (decide_eq_false hne)).symm
    go_enter Tryz.func41, Tryz.ntmps41
    go_wp2_with fail
    all_goals go_ret
    all_goals exact ⟨hne.out, 0, rfl⟩
end Go.Proofs.YtepdfkgadigafaaGreatDoor
