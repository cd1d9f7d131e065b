/-
  Contracts of what only reads, in chapter 23: front, back, Same, Great, Texts, Size.
  Conditions: as each theorem states them.
-/
import Derived.Test.YtfbimghnimepjaaSl
import Derived.Test.YtfbimghnimepjaaDelM
import Derived.Test.YtfbimghnimepjaaProg
namespace Go.Proofs.Ytfbimghnimepjaa
open Go.RowKit
set_option linter.unusedVariables false
set_option linter.unusedSimpArgs false
def Alike (k : Nat) (xs ys : List UInt8) : Prop := ∀ i, i < k → ∃ c, xs[i]? = some c ∧ ys[i]? = some c
theorem Alike.zero (xs ys : List UInt8) : Alike 0 xs ys := fun i h => by omega
theorem Alike.succ {k : Nat} {xs ys : List UInt8} (h : Alike k xs ys) (h1 : k < xs.length) (h2 : k < ys.length) (e : xs[k] = ys[k]) : Alike (k + 1) xs ys := fun i hi => by
  by_cases hk : i = k
  · subst hk; exact ⟨xs[i], by simp [h1], by simp [h2, e]⟩
  · exact h i (by omega)
theorem Alike.cpre {k : Nat} {xs ys : List UInt8} (h : Alike k xs ys) (hn : ∀ (h1 : k < xs.length) (h2 : k < ys.length), xs[k] ≠ ys[k]) : DM.cpre xs ys = k :=
  DM.cpre_eq xs ys k h fun c d hc hd e => by
    obtain ⟨h1, h1'⟩ := List.getElem?_eq_some_iff.1 hc
    obtain ⟨h2, h2'⟩ := List.getElem?_eq_some_iff.1 hd
    exact hn h1 h2 (by rw [h1', h2', e])
theorem byte_eq {x y : UInt8} (h : x = y) : ((x.toNat : Int) == (y.toNat : Int)) = true := by simp [h]
theorem byte_ne {x y : UInt8} (h : ¬ x = y) : ((x.toNat : Int) == (y.toNat : Int)) = false := by
  simp only [beq_eq_false_iff_ne, ne_eq]
  intro e; exact h (UInt8.toNat_inj.1 (by omega))
theorem byte_eq' {x y : UInt8} (h : x = y) : ((x.toNat : Int) != (y.toNat : Int)) = false := by simp [h]
theorem byte_ne' {x y : UInt8} (h : ¬ x = y) : ((x.toNat : Int) != (y.toNat : Int)) = true := by
  simp only [bne_iff_ne, ne_eq]
  intro e; exact h (UInt8.toNat_inj.1 (by omega))
theorem dn (w : World) (n m : Nat) : ∃ k, (w.drewN n).drewN m = w.drewN k := ⟨n + m, by simp⟩
set_option maxHeartbeats 2000000 in
theorem front_any (ba bb : Option Addr) (xs ys : List UInt8) (c d : Nat) (w : World) (hx : xs.length ≤ 1000000) (hy : ys.length ≤ 1000000) (ha : ByAt (fun _ => True) false w ba xs) (hb : ByAt (fun _ => True) false w bb ys) :
    Calls Try.prog 70 #[.slice ba xs.length c, .slice bb ys.length d] w fun e w' => e = .returned (.int .i64 (DM.cpre xs ys : Nat)) ∧ ∃ m, w' = w.drewN m := by
  replace ha := Lib.hid ha
  replace hb := Lib.hid hb
  go_enter Try.func70, Try.ntmps70
  go_wp2_with fail
  go_loopw [5] (fun i wr => ∃ k m : Nat, i = .int .i64 (k : Int) ∧ k ≤ xs.length ∧ k ≤ ys.length ∧ Alike k xs ys ∧ wr = w.drewN m) (fun i _ => xs.length - (intOf i).toNat)
  case atStart => exact ⟨0, 0, rfl, by omega, by omega, Alike.zero _ _, rfl⟩
  case round =>
    obtain ⟨k, m, rfl, hk1, hk2, hal, rfl⟩ := hrel
    by_cases h1 : k < xs.length
    · by_cases h2 : k < ys.length
      · obtain ⟨b1, o1, rfl, c1⟩ := ha.out.cell h1
        obtain ⟨b2, o2, rfl, c2⟩ := hb.out.cell h2
        by_cases h3 : xs[k] = ys[k]
        · have e3 := byte_eq h3
          have hal' := hal.succ h1 h2 h3
          clear hal
          replace h3 := Lib.hid h3
          go_wp2_with (go_quiet (fail))
          all_goals go_roundw
          case measure => simp [intOf]; omega
          case rel => exact ⟨k + 1, _, by go_num, by omega, by omega, hal', rfl⟩
        · have e3 := byte_ne h3
          have hc := hal.cpre (fun _ _ => h3)
          clear hal
          replace hc := Lib.hid hc
          replace h3 := Lib.hid h3
          go_wp2_with (go_quiet (fail))
          all_goals go_ret
          all_goals exact ⟨ret_int (by rw [hc.out]), dn _ _ _⟩
      · have hd : decide (k < ys.length) = false := by simpa using h2
        have hc := hal.cpre (fun _ h => absurd h h2)
        clear hal
        replace hc := Lib.hid hc
        go_wp2_with (go_quiet (fail))
        all_goals go_ret
        all_goals exact ⟨ret_int (by rw [hc.out]), dn _ _ _⟩
    · have hd : decide (k < xs.length) = false := by simpa using h1
      have hc := hal.cpre (fun h _ => absurd h h1)
      clear hal
      replace hc := Lib.hid hc
      go_wp2_with (go_quiet (fail))
      all_goals go_ret
      all_goals exact ⟨ret_int (by rw [hc.out]), dn _ _ _⟩
set_option maxHeartbeats 4000000 in
theorem back_any (ba bb : Option Addr) (xs ys : List UInt8) (c d : Nat) (w : World) (hx : xs.length ≤ 1000000) (hy : ys.length ≤ 1000000) (ha : ByAt (fun _ => True) false w ba xs) (hb : ByAt (fun _ => True) false w bb ys) :
    Calls Try.prog 71 #[.slice ba xs.length c, .slice bb ys.length d] w fun e w' => e = .returned (.int .i64 (DM.cpre xs.reverse ys.reverse : Nat)) ∧ ∃ m, w' = w.drewN m := by
  replace ha := Lib.hid ha
  replace hb := Lib.hid hb
  have lx : xs.reverse.length = xs.length := List.length_reverse
  have ly : ys.reverse.length = ys.length := List.length_reverse
  replace lx := Lib.hid lx
  replace ly := Lib.hid ly
  go_enter Try.func71, Try.ntmps71
  go_wp2_with fail
  go_loopw [5] (fun i wr => ∃ k m : Nat, i = .int .i64 (k : Int) ∧ k ≤ xs.length ∧ k ≤ ys.length ∧ Alike k xs.reverse ys.reverse ∧ wr = w.drewN m) (fun i _ => xs.length - (intOf i).toNat)
  case atStart => exact ⟨0, 0, rfl, by omega, by omega, Alike.zero _ _, rfl⟩
  case round =>
    obtain ⟨k, m, rfl, hk1, hk2, hal, rfl⟩ := hrel
    by_cases h1 : k < xs.length
    · by_cases h2 : k < ys.length
      · have i1 : xs.length - 1 - k < xs.length := by omega
        have j1 : ys.length - 1 - k < ys.length := by omega
        obtain ⟨b1, o1, rfl, c1⟩ := ha.out.cell (i := xs.length - 1 - k) (by omega)
        obtain ⟨b2, o2, rfl, c2⟩ := hb.out.cell (i := ys.length - 1 - k) (by omega)
        have r1 : xs.reverse[k]'(by rw [lx.out]; omega) = xs[xs.length - 1 - k] := by rw [List.getElem_reverse]
        have r2 : ys.reverse[k]'(by rw [ly.out]; omega) = ys[ys.length - 1 - k] := by rw [List.getElem_reverse]
        have i2 : ((xs.length - 1 - k : Nat) : Int) < xs.length := by omega
        have j2 : ((ys.length - 1 - k : Nat) : Int) < ys.length := by omega
        by_cases h3 : xs[xs.length - 1 - k] = ys[ys.length - 1 - k]
        · have e3 := byte_eq h3
          have hal' := hal.succ (by rw [lx.out]; exact h1) (by rw [ly.out]; exact h2) (by rw [r1, r2]; exact h3)
          clear hal r1 r2
          replace h3 := Lib.hid h3
          go_wp2_with (go_quiet (fail))
          all_goals go_roundw
          case measure => simp [intOf]; omega
          case rel => exact ⟨k + 1, _, by go_num, by omega, by omega, hal', rfl⟩
        · have e3 := byte_ne h3
          have hc := hal.cpre (fun _ _ => by rw [r1, r2]; exact h3)
          clear hal r1 r2
          replace hc := Lib.hid hc
          replace h3 := Lib.hid h3
          go_wp2_with (go_quiet (fail))
          all_goals go_ret
          all_goals exact ⟨ret_int (by rw [hc.out]), dn _ _ _⟩
      · have hd : decide (k < ys.length) = false := by simpa using h2
        have hc := hal.cpre (fun _ h => absurd h (by rw [ly.out]; exact h2))
        clear hal
        replace hc := Lib.hid hc
        go_wp2_with (go_quiet (fail))
        all_goals go_ret
        all_goals exact ⟨ret_int (by rw [hc.out]), dn _ _ _⟩
    · have hd : decide (k < xs.length) = false := by simpa using h1
      have hc := hal.cpre (fun h _ => absurd h (by rw [lx.out]; exact h1))
      clear hal
      replace hc := Lib.hid hc
      go_wp2_with (go_quiet (fail))
      all_goals go_ret
      all_goals exact ⟨ret_int (by rw [hc.out]), dn _ _ _⟩
def eqB (x y : List UInt8) : Bool := decide (x = y)
theorem Alike.eq {xs ys : List UInt8} (h : Alike xs.length xs ys) (hl : xs.length = ys.length) : eqB xs ys = true := by
  have : xs = ys := List.ext_getElem? fun i => by
    by_cases hi : i < xs.length
    · obtain ⟨c, h1, h2⟩ := h i hi; rw [h1, h2]
    · rw [List.getElem?_eq_none (by omega), List.getElem?_eq_none (by omega)]
  simp [eqB, this]
theorem eqB_len {xs ys : List UInt8} (h : ¬ xs.length = ys.length) : eqB xs ys = false := by
  simp only [eqB, decide_eq_false_iff_not]; intro e; exact h (by rw [e])
theorem eqB_at {xs ys : List UInt8} {k : Nat} (h1 : k < xs.length) (h2 : k < ys.length) (h : xs[k] ≠ ys[k]) : eqB xs ys = false := by
  simp only [eqB, decide_eq_false_iff_not]; intro e; subst e; exact h rfl
set_option maxHeartbeats 2000000 in
theorem same_any (ba bb : Option Addr) (xs ys : List UInt8) (c d : Nat) (w : World) (hx : xs.length ≤ 1000000) (hy : ys.length ≤ 1000000) (ha : ByAt (fun _ => True) false w ba xs) (hb : ByAt (fun _ => True) false w bb ys) :
    Calls Try.prog 37 #[.slice ba xs.length c, .slice bb ys.length d] w fun e w' => e = .returned (.bool (eqB xs ys)) ∧ ∃ m, w' = w.drewN m := by
  replace ha := Lib.hid ha
  replace hb := Lib.hid hb
  by_cases hl : xs.length = ys.length
  · have hle := hl
    replace hl := Lib.hid hl
    have hl1 : ((xs.length : Int) != (ys.length : Int)) = false := by simp [hle]
    have hl2 : (xs.length : Int) ≤ ys.length := by omega
    have hl3 : (ys.length : Int) ≤ xs.length := by omega
    have hl4 : xs.length ≤ ys.length := by omega
    clear hle
    go_enter Try.func37, Try.ntmps37
    go_wp2_with fail
    go_loopw [5] (fun i wr => ∃ k m : Nat, i = .int .i64 (k : Int) ∧ k ≤ xs.length ∧ Alike k xs ys ∧ wr = w.drewN m) (fun i _ => xs.length - (intOf i).toNat)
    case atStart => exact ⟨0, 0, rfl, by omega, Alike.zero _ _, rfl⟩
    case round =>
      obtain ⟨k, m, rfl, hk1, hal, rfl⟩ := hrel
      by_cases h1 : k < xs.length
      · have h2 : k < ys.length := by omega
        obtain ⟨b1, o1, rfl, c1⟩ := ha.out.cell h1
        obtain ⟨b2, o2, rfl, c2⟩ := hb.out.cell h2
        by_cases h3 : xs[k] = ys[k]
        · have e3 := byte_eq' h3
          have hal' := hal.succ h1 h2 h3
          clear hal
          replace h3 := Lib.hid h3
          go_wp2_with (go_quiet (fail))
          all_goals go_roundw
          case measure => simp [intOf]; omega
          case rel => exact ⟨k + 1, _, by go_num, by omega, hal', rfl⟩
        · have e3 := byte_ne' h3
          have hc := eqB_at h1 h2 h3
          clear hal
          replace hc := Lib.hid hc
          replace h3 := Lib.hid h3
          go_wp2_with (go_quiet (fail))
          all_goals go_ret
          all_goals exact ⟨ret_bool (by rw [hc.out]), dn _ _ _⟩
      · have hkx : xs.length ≤ k := by omega
        have hc := Alike.eq (xs := xs) (ys := ys) (by have := hal; rwa [show k = xs.length by omega] at this) hl.out
        clear hal
        replace hc := Lib.hid hc
        go_wp2_with (go_quiet (fail))
        all_goals go_ret
        all_goals exact ⟨ret_bool (by rw [hc.out]), m, rfl⟩
  · have hc := eqB_len hl
    have hl1 : ((xs.length : Int) != (ys.length : Int)) = true := by simp only [bne_iff_ne, ne_eq]; omega
    replace hc := Lib.hid hc
    go_enter Try.func37, Try.ntmps37
    go_wp2_with fail
    all_goals go_ret
    all_goals exact ⟨ret_bool (by rw [hc.out]), 0, rfl⟩
/-! ### lists of texts -/
def greatB (xs : List (List UInt8)) : Bool := decide (20 < xs.length) || xs.any fun x => decide (200 < x.length)
def Small (k : Nat) (xs : List (List UInt8)) : Prop := ∀ i (h : i < xs.length), i < k → xs[i].length ≤ 200
theorem greatB_long {xs : List (List UInt8)} (h : 20 < xs.length) : greatB xs = true := by simp [greatB, h]
theorem greatB_at {xs : List (List UInt8)} {k : Nat} (h : k < xs.length) (h2 : 200 < xs[k].length) : greatB xs = true := by
  simp only [greatB, Bool.or_eq_true, List.any_eq_true, decide_eq_true_eq]
  exact .inr ⟨xs[k], List.getElem_mem h, h2⟩
theorem greatB_no {xs : List (List UInt8)} (h : xs.length ≤ 20) (h2 : Small xs.length xs) : greatB xs = false := by
  simp only [greatB, Bool.or_eq_false_iff, decide_eq_false_iff_not, List.any_eq_false, decide_eq_true_eq]
  refine ⟨by omega, fun x hx => ?_⟩
  obtain ⟨i, hi, rfl⟩ := List.mem_iff_getElem.1 hx
  have := h2 i hi hi
  omega
theorem not_great {xs : List (List UInt8)} (h : greatB xs = false) : xs.length ≤ 20 ∧ ∀ i (h : i < xs.length), xs[i].length ≤ 200 := by
  simp only [greatB, Bool.or_eq_false_iff, decide_eq_false_iff_not, List.any_eq_false, decide_eq_true_eq] at h
  exact ⟨by omega, fun i hi => by have := h.2 xs[i] (List.getElem_mem hi); omega⟩
set_option maxHeartbeats 2000000 in
theorem great_any (la : Option Addr) (xs : List (List UInt8)) (c : Nat) (w : World) (hl : xs.length ≤ 9223372036854775807) (hx : ∀ i (h : i < xs.length), xs[i].length ≤ 9223372036854775807) (ha : TxAt (fun _ => True) false w la xs) :
    Calls Try.prog 42 #[.slice la xs.length c] w fun e w' => e = .returned (.bool (greatB xs)) ∧ w = w' := by
  replace ha := Lib.hid ha
  replace hx := Lib.hid hx
  by_cases hg : 20 < xs.length
  · have hc := greatB_long hg
    replace hc := Lib.hid hc
    go_enter Try.func42, Try.ntmps42
    go_wp2_with fail
    all_goals go_ret
    all_goals exact ⟨ret_bool (by rw [hc.out]), rfl⟩
  · go_enter Try.func42, Try.ntmps42
    go_wp2_with fail
    go_loop [3] (fun i => ∃ k : Nat, i = .int .i64 (k : Int) ∧ k ≤ xs.length ∧ Small k xs) (fun i => xs.length - (intOf i).toNat)
    case atStart => exact ⟨0, rfl, by omega, fun i _ h => by omega⟩
    case round =>
      obtain ⟨k, rfl, hk, hs⟩ := hrel
      by_cases h1 : k < xs.length
      · obtain ⟨b, o, xa, xc, rfl, c1, _, _, _⟩ := ha.out.nth h1
        have hn := hx.out k h1
        by_cases h2 : 200 < xs[k].length
        · have hc := greatB_at h1 h2
          replace hc := Lib.hid hc
          go_wp2_with fail
          all_goals go_ret
          all_goals exact ⟨ret_bool (by rw [hc.out]), rfl⟩
        · have hs' : Small (k + 1) xs := fun i hi hk => by
            by_cases e : i = k
            · subst e; omega
            · exact hs i hi (by omega)
          clear hs
          go_wp2_with fail
          all_goals go_round
          case measure => simp [intOf]; omega
          case rel => exact ⟨k + 1, by go_num, by omega, hs'⟩
      · have hc := greatB_no (xs := xs) (by omega) (by have := hs; rwa [show k = xs.length by omega] at this)
        clear hs
        replace hc := Lib.hid hc
        go_wp2_with fail
        all_goals go_ret
        all_goals exact ⟨ret_bool (by rw [hc.out]), rfl⟩
theorem quiet_mn {P : Program} {f : FuncId} {args : Array Value} {w : World} {m x : Nat} {v : Value} (h : ∀ n, Calls P f args (w.drewN n) fun e w' => e = .returned v ∧ ∃ k, w' = (w.drewN n).drewN k) :
    Calls P f args (w.drewN (m + x)) fun e w'' => e = .returned v ∧ ∃ n, w'' = w.drewN (m + n) :=
  (h (m + x)).mono fun _ _ ⟨he, k, hk⟩ => ⟨he, x + k, by rw [hk, World.drewN_drewN, Nat.add_assoc]⟩
theorem quiet_n {P : Program} {f : FuncId} {args : Array Value} {w : World} {x : Nat} {v : Value} (h : ∀ n, Calls P f args (w.drewN n) fun e w' => e = .returned v ∧ ∃ k, w' = (w.drewN n).drewN k) :
    Calls P f args (w.drewN x) fun e w'' => e = .returned v ∧ ∃ n, w'' = w.drewN n :=
  (h x).mono fun _ _ ⟨he, k, hk⟩ => ⟨he, x + k, by rw [hk, World.drewN_drewN]⟩
def txB (x y : List (List UInt8)) : Bool := decide (x = y)
def AlikeT (k : Nat) (xs ys : List (List UInt8)) : Prop := ∀ i, i < k → ∃ c, xs[i]? = some c ∧ ys[i]? = some c
theorem eqB_true {x y : List UInt8} : eqB x y = true ↔ x = y := by simp [eqB]
theorem eqB_false {x y : List UInt8} : eqB x y = false ↔ ¬ x = y := by simp [eqB]
theorem AlikeT.succ {k : Nat} {xs ys : List (List UInt8)} (h : AlikeT k xs ys) (h1 : k < xs.length) (h2 : k < ys.length) (e : xs[k] = ys[k]) : AlikeT (k + 1) xs ys := fun i hi => by
  by_cases hk : i = k
  · subst hk; exact ⟨xs[i], by simp [h1], by simp [h2, e]⟩
  · exact h i (by omega)
theorem AlikeT.eq {xs ys : List (List UInt8)} (h : AlikeT xs.length xs ys) (hl : xs.length = ys.length) : txB xs ys = true := by
  have : xs = ys := List.ext_getElem? fun i => by
    by_cases hi : i < xs.length
    · obtain ⟨c, h1, h2⟩ := h i hi; rw [h1, h2]
    · rw [List.getElem?_eq_none (by omega), List.getElem?_eq_none (by omega)]
  simp [txB, this]
theorem txB_len {xs ys : List (List UInt8)} (h : ¬ xs.length = ys.length) : txB xs ys = false := by
  simp only [txB, decide_eq_false_iff_not]; intro e; exact h (by rw [e])
theorem txB_at {xs ys : List (List UInt8)} {k : Nat} (h1 : k < xs.length) (h2 : k < ys.length) (h : xs[k] ≠ ys[k]) : txB xs ys = false := by
  simp only [txB, decide_eq_false_iff_not]; intro e; subst e; exact h rfl
set_option maxHeartbeats 2000000 in
theorem texts_any (ba bb : Option Addr) (xs ys : List (List UInt8)) (c d : Nat) (w : World) (hx : xs.length ≤ 1000000) (hy : ys.length ≤ 1000000) (hxs : ∀ i (h : i < xs.length), xs[i].length ≤ 1000000) (hys : ∀ i (h : i < ys.length), ys[i].length ≤ 1000000)
    (ha : TxAt (fun _ => True) false w ba xs) (hb : TxAt (fun _ => True) false w bb ys) :
    Calls Try.prog 49 #[.slice ba xs.length c, .slice bb ys.length d] w fun e w' => e = .returned (.bool (txB xs ys)) ∧ ∃ m, w' = w.drewN m := by
  replace ha := Lib.hid ha
  replace hb := Lib.hid hb
  replace hxs := Lib.hid hxs
  replace hys := Lib.hid hys
  by_cases hl : xs.length = ys.length
  · have hle := hl
    replace hl := Lib.hid hl
    have hl1 : ((xs.length : Int) != (ys.length : Int)) = false := by simp [hle]
    have hl2 : (xs.length : Int) ≤ ys.length := by omega
    have hl3 : (ys.length : Int) ≤ xs.length := by omega
    have hl4 : xs.length ≤ ys.length := by omega
    clear hle
    go_enter Try.func49, Try.ntmps49
    go_wp2_with fail
    go_loopw [5] (fun i wr => ∃ k m : Nat, i = .int .i64 (k : Int) ∧ k ≤ xs.length ∧ AlikeT k xs ys ∧ wr = w.drewN m) (fun i _ => xs.length - (intOf i).toNat)
    case atStart => exact ⟨0, 0, rfl, by omega, fun i h => by omega, rfl⟩
    case round =>
      obtain ⟨k, m, rfl, hk1, hal, rfl⟩ := hrel
      by_cases h1 : k < xs.length
      · have h2 : k < ys.length := by omega
        obtain ⟨b1, o1, xa, xc, rfl, c1, _, _, hA⟩ := ha.out.nth h1
        obtain ⟨b2, o2, ya, yc, rfl, c2, _, _, hB⟩ := hb.out.nth h2
        have hsm := fun n => same_any xa ya xs[k] ys[k] xc yc (w.drewN n) (hxs.out k _) (hys.out k _) (hA.drewN n) (hB.drewN n)
        clear hA hB
        by_cases h3 : xs[k] = ys[k]
        · rw [eqB_true.2 h3] at hsm
          have hal' := hal.succ h1 h2 h3
          clear hal
          replace h3 := Lib.hid h3
          replace hsm := Lib.hid hsm
          go_wp2_with (go_quiet ((go_at_call 37; exact quiet_mn hsm.out)))
          all_goals go_roundw
          case measure => simp [intOf]; omega
          case rel => exact ⟨k + 1, _, by go_num, by omega, hal', rfl⟩
        · rw [eqB_false.2 h3] at hsm
          have hc := txB_at h1 h2 h3
          clear hal
          replace hc := Lib.hid hc
          replace h3 := Lib.hid h3
          replace hsm := Lib.hid hsm
          go_wp2_with (go_quiet ((go_at_call 37; exact quiet_mn hsm.out)))
          all_goals go_ret
          all_goals exact ⟨ret_bool (by rw [hc.out]), dn _ _ _⟩
      · have hkx : xs.length ≤ k := by omega
        have hc := AlikeT.eq (xs := xs) (ys := ys) (by have := hal; rwa [show k = xs.length by omega] at this) hl.out
        clear hal
        replace hc := Lib.hid hc
        go_wp2_with (go_quiet (fail))
        all_goals go_ret
        all_goals exact ⟨ret_bool (by rw [hc.out]), m, rfl⟩
  · have hc := txB_len hl
    have hl1 : ((xs.length : Int) != (ys.length : Int)) = true := by simp only [bne_iff_ne, ne_eq]; omega
    replace hc := Lib.hid hc
    go_enter Try.func49, Try.ntmps49
    go_wp2_with fail
    all_goals go_ret
    all_goals exact ⟨ret_bool (by rw [hc.out]), 0, rfl⟩
end Go.Proofs.Ytfbimghnimepjaa
