/-
  palinoderef01.Same at any two rows of bytes; of chapter 32.
  Conditions: as each theorem states them.
-/
import Derived.Test.YtaginadnaajleaaDoorCut
import Derived.Deep.LoopGhost
import Derived.Test.YtaginadnaajleaaDoorCase
import Derived.Deep.QuietTactic
import Derived.BigQuiet
import Derived.Deep.AppendLies
import Derived.Deep.RegionHeld3
namespace Go.Proofs.YtaginadnaajleaaDoor
open Go.RowKit
set_option linter.unusedVariables false
set_option linter.unusedSimpArgs false
theorem take_ne {α : Type} {xs ys : List α} {k : Nat} (h1 : k < xs.length) (h2 : k < ys.length) (h : xs[k] ≠ ys[k]) : xs ≠ ys := fun e => h (by subst e; rfl)
theorem take_eq {α : Type} {xs ys : List α} {k : Nat} (h1 : k < xs.length) (h2 : k < ys.length) (ht : xs.take k = ys.take k) (h : xs[k] = ys[k]) : xs.take (k + 1) = ys.take (k + 1) := by
  rw [List.take_succ_eq_append_getElem h1, List.take_succ_eq_append_getElem h2, ht, h]
set_option maxHeartbeats 2000000 in
theorem same_bytes (a1 a2 : Option Addr) (c1 c2 : Nat) (xs ys : List UInt8) (w : World) (l1 : xs.length ≤ 140737488351232) (l2 : ys.length ≤ 140737488351232) (h1 : BytesAt w a1 xs) (h2 : BytesAt w a2 ys) :
    Calls Tryd.prog 22 #[.slice a1 xs.length c1, .slice a2 ys.length c2] w fun e w' => e = .returned (.bool (decide (xs = ys))) ∧ ∃ m, w' = w.drewN m := by
  by_cases hl : xs.length = ys.length
  · have hret : ∀ b, decide (xs = ys) = b → (Ending.returned (.bool b)) = .returned (.bool (decide (xs = ys))) := fun b e => by rw [e]
    generalize hn : xs.length = n at *
    have hy : n = ys.length := hl
    clear hl
    rw [← hy]
    replace h1 := Lib.hid h1
    replace h2 := Lib.hid h2
    replace hn := Lib.hid hn
    replace hy := Lib.hid hy
    replace hret := Lib.hid hret
    clear l2
    have hq : ((n : Int) != n) = false := by simp
    go_enter Tryd.func22, Tryd.ntmps22
    go_wp2_with fail
    go_loopg [5] n (fun gh i wr => ∃ k : Nat, gh = n - k ∧ i = .int .i64 (k : Int) ∧ k ≤ n ∧ Hid (xs.take k = ys.take k) ∧ ∃ m, Hid (wr = w.drewN m))
    case atStart => exact ⟨0, rfl, rfl, by omega, Lib.hid (by simp), 0, Lib.hid rfl⟩
    case round =>
      obtain ⟨k, rfl, rfl, hk, ht, m, hm⟩ := hrel
      by_cases hlt : k < n
      · have k1 : k < xs.length := by rw [hn.out]; exact hlt
        have k2 : k < ys.length := by rw [← hy.out]; exact hlt
        obtain ⟨p, o, rfl, hp, hr⟩ := h1.out (by omega)
        obtain ⟨p', o', rfl, hp', hr'⟩ := h2.out (by omega)
        have e1 : wr.cell? ⟨p, o + k, none⟩ = some (.int .u8 (xs[k].toNat : Int)) := by rw [hm.out]; exact hr k k1
        have e2 : wr.cell? ⟨p', o' + k, none⟩ = some (.int .u8 (ys[k].toNat : Int)) := by rw [hm.out]; exact hr' k k2
        clear hr hr'
        by_cases hc : xs[k] = ys[k]
        · have q1 : ((xs[k].toNat : Int) != (ys[k].toNat : Int)) = false := by rw [hc]; simp
          have hte := Lib.hid (take_eq k1 k2 ht.out hc)
          clear hc ht
          generalize xs[k].toNat = x at *
          generalize ys[k].toNat = y at *
          go_wp2_with (go_quiet (fail))
          all_goals go_roundg (n - (k + 1))
          case measure => omega
          case rel => exact ⟨k + 1, rfl, by go_num, by omega, hte, _, Lib.hid (by rw [hm.out, World.drewN_drewN])⟩
        · have q1 : ((xs[k].toNat : Int) != (ys[k].toNat : Int)) = true := by simp; intro e; exact hc (UInt8.toNat_inj.1 (by omega))
          have hte := Lib.hid (take_ne k1 k2 hc)
          clear hc ht
          generalize xs[k].toNat = x at *
          generalize ys[k].toNat = y at *
          go_wp2_with (go_quiet (fail))
          all_goals go_ret
          all_goals exact ⟨hret.out _ (decide_eq_false hte.out), _, by rw [hm.out, World.drewN_drewN]⟩
      · obtain rfl : k = n := by omega
        have hte : xs = ys := by
          have := ht.out
          rwa [List.take_of_length_le (by rw [hn.out]; exact Nat.le_refl _), List.take_of_length_le (by rw [← hy.out]; exact Nat.le_refl _)] at this
        replace hte := Lib.hid hte
        clear ht
        go_wp2_with fail
        go_ret
        exact ⟨hret.out _ (decide_eq_true hte.out), m, hm.out⟩
  · have hne : xs ≠ ys := fun e => hl (by rw [e])
    have hq : ((xs.length : Int) != ys.length) = true := by simp; omega
    replace hne := Lib.hid (ret_bool (decide_eq_false hne)).symm
    go_enter Tryd.func22, Tryd.ntmps22
    go_wp2_with fail
    all_goals go_ret
    all_goals exact ⟨hne.out, 0, rfl⟩
end Go.Proofs.YtaginadnaajleaaDoor
/-
  A case as it is read: its rows; of chapter 32.
  Conditions: as each theorem states them.
-/
namespace Go.Proofs.YtaginadnaajleaaDoor
open Go.RowKit
set_option linter.unusedVariables false
set_option linter.unusedSimpArgs false
open BM (Cs)
/-- a slice of bytes -/
def BysAt (w : World) (v : Value) (xs : List UInt8) : Prop := ∃ a c, v = .slice a xs.length c ∧ (a = none → xs.length = 0) ∧ BytesAt w a xs
/-- a slice of texts -/
def TxtsAt (w : World) (v : Value) (ts : List (List UInt8)) : Prop := ∃ a c, v = .slice a ts.length c ∧ (a = none → ts.length = 0) ∧ (0 < ts.length → ∃ b o, a = some ⟨b, o, none⟩ ∧ b < w.heap.size ∧ ∀ i (h : i < ts.length), w.cell? ⟨b, o + i, none⟩ = some (strV ts[i]))
/-- a slice of files -/
def FsAt (w : World) (v : Value) (fs : List (List UInt8 × List UInt8)) : Prop := ∃ a c, v = .slice a fs.length c ∧ (a = none → fs.length = 0) ∧ (0 < fs.length → ∃ b o, a = some ⟨b, o, none⟩ ∧ b < w.heap.size ∧ ∀ i (h : i < fs.length), w.cell? ⟨b, o + i * 2, none⟩ = some (strV fs[i].1) ∧ ∃ u, w.cell? ⟨b, o + i * 2 + 1, none⟩ = some u ∧ BysAt w u fs[i].2)
theorem BysAt.below {w w' : World} {v : Value} {xs : List UInt8} (h : BysAt w v xs) (hb : Below w.heap.size w w') : BysAt w' v xs := by
  obtain ⟨a, c, e, h0, h⟩ := h
  exact ⟨a, c, e, h0, h.below hb⟩
theorem TxtsAt.below {w w' : World} {v : Value} {ts : List (List UInt8)} (h : TxtsAt w v ts) (hb : Below w.heap.size w w') : TxtsAt w' v ts := by
  obtain ⟨a, c, e, h0, h⟩ := h
  refine ⟨a, c, e, h0, fun h0 => ?_⟩
  obtain ⟨b, o, ea, hl, hr⟩ := h h0
  exact ⟨b, o, ea, Nat.lt_of_lt_of_le hl hb.size, fun i hi => (hb.cell (p := ⟨b, o + i, none⟩) hl).trans (hr i hi)⟩
theorem FsAt.below {w w' : World} {v : Value} {fs : List (List UInt8 × List UInt8)} (h : FsAt w v fs) (hb : Below w.heap.size w w') : FsAt w' v fs := by
  obtain ⟨a, c, e, h0, h⟩ := h
  refine ⟨a, c, e, h0, fun h0 => ?_⟩
  obtain ⟨b, o, ea, hl, hr⟩ := h h0
  refine ⟨b, o, ea, Nat.lt_of_lt_of_le hl hb.size, fun i hi => ?_⟩
  obtain ⟨h1, u, h2, h3⟩ := hr i hi
  exact ⟨(hb.cell (p := ⟨b, o + i * 2, none⟩) hl).trans h1, u, (hb.cell (p := ⟨b, o + i * 2 + 1, none⟩) hl).trans h2, h3.below hb⟩
theorem cell_of_row2 {w : World} {gq e : Nat} {cur : Array Value} {fr : Nat × Nat} (hh : w.heap[gq]? = some (.cells cur e fr)) {n : Nat} {xs : List Value} (hx : cur.toList.take n = xs) {j : Nat} {u : Value} (hj : xs[j]? = some u) : w.cell? ⟨gq, j, none⟩ = some u := by
  rw [cell_of_row w gq j cur e fr hh]
  rw [← hx, List.getElem?_take] at hj
  split at hj
  · simpa using hj
  · cases hj
theorem own_rows {w : World} {base e n s : Nat} {v : Value} {xs : List Value} (h : w.ownsRow base e s v n xs) : ∃ a c, v = .slice a n c ∧ (a = none → n = 0) ∧ (0 < n → ∃ b, a = some ⟨b, 0, none⟩ ∧ b < w.heap.size ∧ ∀ j u, xs[j]? = some u → w.cell? ⟨b, j, none⟩ = some u) := by
  rcases h.2 with ⟨rfl, rfl⟩ | ⟨gq, cap, cur, rfl, hb, hh, _, _, _, hx⟩
  · exact ⟨none, 0, rfl, fun _ => rfl, fun h => by omega⟩
  · refine ⟨_, cap, rfl, (fun e => by cases e), fun _ => ⟨gq, rfl, ?_, fun j u hj => cell_of_row2 hh hx hj⟩⟩
    rcases Nat.lt_or_ge gq w.heap.size with hlt | hge
    · exact hlt
    · rw [Array.getElem?_eq_none hge] at hh; cases hh
theorem bys_own {w : World} {base e : Nat} {v : Value} {xs : List UInt8} (h : w.ownsRow base e 1 v xs.length (Lib.byteCells xs)) : BysAt w v xs := by
  obtain ⟨a, c, e, h0, hr⟩ := own_rows h
  refine ⟨a, c, e, h0, fun hn => ?_⟩
  obtain ⟨b, rfl, hb, hc⟩ := hr hn
  refine ⟨b, 0, rfl, hb, fun i hi => ?_⟩
  rw [Nat.zero_add]
  exact hc i _ (by simp [Lib.byteCells, hi])
theorem txts_own {w : World} {base e : Nat} {v : Value} {ts : List (List UInt8)} (h : w.ownsRow base e 1 v ts.length (ts.map strV)) : TxtsAt w v ts := by
  obtain ⟨a, c, e, h0, hr⟩ := own_rows h
  refine ⟨a, c, e, h0, fun hn => ?_⟩
  obtain ⟨b, rfl, hb, hc⟩ := hr hn
  refine ⟨b, 0, rfl, hb, fun i hi => ?_⟩
  rw [Nat.zero_add]
  exact hc i _ (by simp [hi])
theorem flat2 {α : Type} (f g : α → Value) : ∀ (l : List α) (i : Nat) (h : i < l.length), (l.flatMap fun p => [f p, g p])[i * 2]? = some (f l[i]) ∧ (l.flatMap fun p => [f p, g p])[i * 2 + 1]? = some (g l[i])
  | [], i, h => by simp at h
  | x :: l, 0, _ => by simp
  | x :: l, i + 1, h => by
    obtain ⟨h1, h2⟩ := flat2 f g l i (by simpa using h)
    constructor
    · rw [List.flatMap_cons, show (i + 1) * 2 = i * 2 + 1 + 1 by omega]
      exact h1
    · rw [List.flatMap_cons, show (i + 1) * 2 + 1 = (i * 2 + 1) + 1 + 1 by omega]
      exact h2
/-- a case as it is read -/
structure CsAt (w : World) (c : Cs) (vs vi vf vl : Value) : Prop where
  sed : BysAt w vs c.sed
  inp : TxtsAt w vi c.inputs
  fil : FsAt w vf c.files
  lin : TxtsAt w vl c.lines
theorem CsAt.below {w w' : World} {c : Cs} {vs vi vf vl : Value} (h : CsAt w c vs vi vf vl) (hb : Below w.heap.size w w') : CsAt w' c vs vi vf vl := ⟨h.sed.below hb, h.inp.below hb, h.fil.below hb, h.lin.below hb⟩
theorem CaseV.read {w : World} {g base : Nat} {c : Cs} {vs vi vf vl : Value} {fv : List (List UInt8 × Value)} (h : CaseV w g base c vs vi vf vl fv) : CsAt w c vs vi vf vl := by
  refine ⟨bys_own h.sed, txts_own h.inp, ?_, txts_own h.lin⟩
  obtain ⟨a, c', e, h0, hr⟩ := own_rows h.fil
  have hlen : fv.length = c.files.length := by have := congrArg List.length h.fvn; simpa using this
  refine ⟨a, c', e, h0, fun hn => ?_⟩
  obtain ⟨b, rfl, hb, hc⟩ := hr hn
  refine ⟨b, 0, rfl, hb, fun i hi => ?_⟩
  have hi' : i < fv.length := by omega
  obtain ⟨f1, f2⟩ := flat2 (fun p : List UInt8 × Value => strV p.1) (fun p => p.2) fv i hi'
  have hnm : fv[i].1 = c.files[i].1 := by
    have h1 := congrArg (fun l => l[i]?) h.fvn
    simpa [hi, hi'] using h1
  refine ⟨?_, fv[i].2, ?_, bys_own (h.fvb i hi hi')⟩
  · rw [Nat.zero_add, ← hnm]; exact hc _ _ f1
  · rw [Nat.zero_add]; exact hc _ _ f2
end Go.Proofs.YtaginadnaajleaaDoor
/-
  Two rows of texts, two rows of files: the same?; of chapter 32.
  Conditions: as each theorem states them.
-/
namespace Go.Proofs.YtaginadnaajleaaDoor
open Go.RowKit
set_option linter.unusedVariables false
set_option linter.unusedSimpArgs false
theorem str_ne (x y : List UInt8) : (((⟨x.toArray⟩ : ByteArray) == ⟨y.toArray⟩) = decide (x = y)) := by
  show (x.toArray == y.toArray) = _
  rw [Bool.eq_iff_iff]
  simp
/-- a row of texts, by its address -/
def TxtAt (w : World) (a : Option Addr) (ts : List (List UInt8)) : Prop := 0 < ts.length → ∃ b o, a = some ⟨b, o, none⟩ ∧ b < w.heap.size ∧ ∀ i (h : i < ts.length), w.cell? ⟨b, o + i, none⟩ = some (strV ts[i])
set_option maxHeartbeats 2000000 in
theorem texts_any (va vb : Value) (xs ys : List (List UInt8)) (w : World) (l1 : xs.length ≤ 1000000) (l2 : ys.length ≤ 1000000) (h1 : TxtsAt w va xs) (h2 : TxtsAt w vb ys) :
    Calls Tryd.prog 23 #[va, vb] w fun e w' => e = .returned (.bool (decide (xs = ys))) ∧ ∃ m, w' = w.drewN m := by
  obtain ⟨a1, c1, rfl, _, h1⟩ := h1
  obtain ⟨a2, c2, rfl, _, h2⟩ := h2
  replace h1 : TxtAt w a1 xs := h1
  replace h2 : TxtAt w a2 ys := h2
  by_cases hl : xs.length = ys.length
  · have hret : ∀ b, decide (xs = ys) = b → (Ending.returned (.bool b)) = .returned (.bool (decide (xs = ys))) := fun b e => by rw [e]
    generalize hn : xs.length = n at *
    have hy : n = ys.length := hl
    clear hl
    rw [← hy]
    replace h1 := Lib.hid h1
    replace h2 := Lib.hid h2
    replace hn := Lib.hid hn
    replace hy := Lib.hid hy
    replace hret := Lib.hid hret
    clear l2
    have hq : ((n : Int) != n) = false := by simp
    go_enter Tryd.func23, Tryd.ntmps23
    go_wp2_with fail
    go_loopg [5] n (fun gh i wr => ∃ k : Nat, gh = n - k ∧ i = .int .i64 (k : Int) ∧ k ≤ n ∧ Hid (xs.take k = ys.take k) ∧ ∃ m, Hid (wr = w.drewN m))
    case atStart => exact ⟨0, rfl, rfl, by omega, Lib.hid (by simp), 0, Lib.hid rfl⟩
    case round =>
      obtain ⟨k, rfl, rfl, hk, ht, m, hm⟩ := hrel
      by_cases hlt : k < n
      · have k1 : k < xs.length := by rw [hn.out]; exact hlt
        have k2 : k < ys.length := by rw [← hy.out]; exact hlt
        obtain ⟨p, o, rfl, hp, hr⟩ := h1.out (by omega)
        obtain ⟨p', o', rfl, hp', hr'⟩ := h2.out (by omega)
        have e1 : wr.cell? ⟨p, o + k, none⟩ = some (strV xs[k]) := by rw [hm.out]; exact hr k k1
        have e2 : wr.cell? ⟨p', o' + k, none⟩ = some (strV ys[k]) := by rw [hm.out]; exact hr' k k2
        clear hr hr'
        unfold strV at e1 e2
        by_cases hc : xs[k] = ys[k]
        · have q1 := str_ne xs[k] ys[k]
          rw [decide_eq_true hc] at q1
          have hte := Lib.hid (take_eq k1 k2 ht.out hc)
          clear hc ht
          generalize (⟨xs[k].toArray⟩ : ByteArray) = x at *
          generalize (⟨ys[k].toArray⟩ : ByteArray) = y at *
          rw [beq_toListBytes] at q1
          go_wp2_with (go_quiet (fail))
          all_goals go_roundg (n - (k + 1))
          case measure => omega
          case rel => exact ⟨k + 1, rfl, by go_num, by omega, hte, _, Lib.hid (by rw [hm.out, World.drewN_drewN])⟩
        · have q1 := str_ne xs[k] ys[k]
          rw [decide_eq_false hc] at q1
          have hte := Lib.hid (take_ne k1 k2 hc)
          clear hc ht
          generalize (⟨xs[k].toArray⟩ : ByteArray) = x at *
          generalize (⟨ys[k].toArray⟩ : ByteArray) = y at *
          rw [beq_toListBytes] at q1
          go_wp2_with (go_quiet (fail))
          all_goals go_ret
          all_goals exact ⟨hret.out _ (decide_eq_false hte.out), _, by rw [hm.out, World.drewN_drewN]⟩
      · obtain rfl : k = n := by omega
        have hte : xs = ys := by
          have := ht.out
          rwa [List.take_of_length_le (by rw [hn.out]; exact Nat.le_refl _), List.take_of_length_le (by rw [← hy.out]; exact Nat.le_refl _)] at this
        replace hte := Lib.hid hte
        clear ht
        go_wp2_with fail
        go_ret
        exact ⟨hret.out _ (decide_eq_true hte.out), m, hm.out⟩
  · have hne : xs ≠ ys := fun e => hl (by rw [e])
    have hq : ((xs.length : Int) != ys.length) = true := by simp; omega
    replace hne := Lib.hid (ret_bool (decide_eq_false hne)).symm
    go_enter Tryd.func23, Tryd.ntmps23
    go_wp2_with fail
    all_goals go_ret
    all_goals exact ⟨hne.out, 0, rfl⟩
end Go.Proofs.YtaginadnaajleaaDoor
/-
  Two rows of files: the same?; the numbers of two books; of chapter 32.
  Conditions: as each theorem states them.
-/
namespace Go.Proofs.YtaginadnaajleaaDoor
open Go.RowKit
set_option linter.unusedVariables false
set_option linter.unusedSimpArgs false
/-- a row of files, by its address -/
def FilAt (w : World) (a : Option Addr) (fs : List (List UInt8 × List UInt8)) : Prop := 0 < fs.length → ∃ b o, a = some ⟨b, o, none⟩ ∧ b < w.heap.size ∧ ∀ i (h : i < fs.length), w.cell? ⟨b, o + i * 2, none⟩ = some (strV fs[i].1) ∧ ∃ u, w.cell? ⟨b, o + i * 2 + 1, none⟩ = some u ∧ BysAt w u fs[i].2
set_option maxHeartbeats 2000000 in
theorem files_any (va vb : Value) (xs ys : List (List UInt8 × List UInt8)) (w : World) (l1 : xs.length ≤ 1000000) (l2 : ys.length ≤ 1000000) (hx : ∀ p ∈ xs, p.2.length ≤ 1000000) (hz : ∀ p ∈ ys, p.2.length ≤ 1000000) (h1 : FsAt w va xs) (h2 : FsAt w vb ys) :
    Calls Tryd.prog 24 #[va, vb] w fun e w' => e = .returned (.bool (decide (xs = ys))) ∧ ∃ m, w' = w.drewN m := by
  obtain ⟨a1, c1, rfl, _, h1⟩ := h1
  obtain ⟨a2, c2, rfl, _, h2⟩ := h2
  replace h1 : FilAt w a1 xs := h1
  replace h2 : FilAt w a2 ys := h2
  by_cases hl : xs.length = ys.length
  · have hret : ∀ b, decide (xs = ys) = b → (Ending.returned (.bool b)) = .returned (.bool (decide (xs = ys))) := fun b e => by rw [e]
    generalize hn : xs.length = n at *
    have hy : n = ys.length := hl
    clear hl
    rw [← hy]
    replace h1 := Lib.hid h1
    replace h2 := Lib.hid h2
    replace hn := Lib.hid hn
    replace hy := Lib.hid hy
    replace hret := Lib.hid hret
    replace hx := Lib.hid hx
    replace hz := Lib.hid hz
    clear l2
    have hq : ((n : Int) != n) = false := by simp
    go_enter Tryd.func24, Tryd.ntmps24
    go_wp2_with fail
    go_loopg [5] n (fun gh i wr => ∃ k : Nat, gh = n - k ∧ i = .int .i64 (k : Int) ∧ k ≤ n ∧ Hid (xs.take k = ys.take k) ∧ ∃ m, Hid (wr = w.drewN m))
    case atStart => exact ⟨0, rfl, rfl, by omega, Lib.hid (by simp), 0, Lib.hid rfl⟩
    case round =>
      obtain ⟨k, rfl, rfl, hk, ht, m, hm⟩ := hrel
      by_cases hlt : k < n
      · have k1 : k < xs.length := by rw [hn.out]; exact hlt
        have k2 : k < ys.length := by rw [← hy.out]; exact hlt
        obtain ⟨p, o, rfl, hp, hr⟩ := h1.out (by omega)
        obtain ⟨p', o', rfl, hp', hr'⟩ := h2.out (by omega)
        obtain ⟨e1, u1, e2, hu1⟩ := hr k k1
        obtain ⟨e3, u2, e4, hu2⟩ := hr' k k2
        clear hr hr'
        have eW : ∀ a, wr.cell? a = w.cell? a := fun a => by rw [hm.out]; simp
        rw [← eW] at e1 e2 e3 e4
        clear eW
        unfold strV at e1 e3
        have z1 := hx.out _ (List.getElem_mem k1)
        have z2 := hz.out _ (List.getElem_mem k2)
        have hib : (k : Int) < (n : Int) := by omega
        obtain ⟨b1, d1, rfl, _, hu1⟩ := hu1
        obtain ⟨b2, d2, rfl, _, hu2⟩ := hu2
        have q1 := str_ne xs[k].1 ys[k].1
        have hs := fun m => same_bytes b1 b2 d1 d2 xs[k].2 ys[k].2 (wr.drewN m) (by omega) (by omega) (by rw [hm.out]; exact (hu1.below (bl_drewN (Below.refl _ _) _)).below (bl_drewN (Below.refl _ _) _)) (by rw [hm.out]; exact (hu2.below (bl_drewN (Below.refl _ _) _)).below (bl_drewN (Below.refl _ _) _))
        have hte1 : xs[k].1 ≠ ys[k].1 → xs ≠ ys := fun h => take_ne k1 k2 (fun e => h (by rw [e]))
        have hte2 : xs[k].2 ≠ ys[k].2 → xs ≠ ys := fun h => take_ne k1 k2 (fun e => h (by rw [e]))
        have hte3 : xs[k].1 = ys[k].1 → xs[k].2 = ys[k].2 → xs.take (k + 1) = ys.take (k + 1) := fun h h' => take_eq k1 k2 ht.out (Prod.ext h h')
        clear hu1 hu2
        by_cases hc : xs[k].1 = ys[k].1
        · rw [decide_eq_true hc] at q1
          generalize (⟨xs[k].1.toArray⟩ : ByteArray) = x at *
          generalize (⟨ys[k].1.toArray⟩ : ByteArray) = y at *
          rw [beq_toListBytes] at q1
          obtain ⟨n1, hn1⟩ : ∃ n1, xs[k].2.length = n1 := ⟨_, rfl⟩
          obtain ⟨n2, hn2⟩ : ∃ n2, ys[k].2.length = n2 := ⟨_, rfl⟩
          rw [hn1] at e2
          rw [hn2] at e4
          rw [hn1, hn2] at hs
          by_cases hd : xs[k].2 = ys[k].2
          · have hte := Lib.hid (hte3 hc hd)
            rw [decide_eq_true hd] at hs
            replace hs := Lib.hid hs
            clear hte1 hte2 hte3 hc hd z1 z2 hn1 hn2 ht
            go_wp2_with (go_quiet ((go_at_call 22; exact Calls.quiet_of (hs.out _))))
            all_goals go_roundg (n - (k + 1))
            case measure => omega
            case rel => exact ⟨k + 1, rfl, by go_num, by omega, hte, _, Lib.hid (by rw [hm.out, World.drewN_drewN])⟩
          · have hte := Lib.hid (hte2 hd)
            rw [decide_eq_false hd] at hs
            replace hs := Lib.hid hs
            clear hte1 hte2 hte3 hc hd z1 z2 hn1 hn2 ht
            go_wp2_with (go_quiet ((go_at_call 22; exact Calls.quiet_of (hs.out _))))
            all_goals go_ret
            all_goals exact ⟨hret.out _ (decide_eq_false hte.out), _, by rw [hm.out, World.drewN_drewN]⟩
        · rw [decide_eq_false hc] at q1
          have hte := Lib.hid (hte1 hc)
          clear hte1 hte2 hte3 hc z1 z2 hs ht
          generalize (⟨xs[k].1.toArray⟩ : ByteArray) = x at *
          generalize (⟨ys[k].1.toArray⟩ : ByteArray) = y at *
          rw [beq_toListBytes] at q1
          go_wp2_with (go_quiet (fail))
          all_goals go_ret
          all_goals exact ⟨hret.out _ (decide_eq_false hte.out), _, by rw [hm.out, World.drewN_drewN]⟩
      · obtain rfl : k = n := by omega
        have hte : xs = ys := by
          have := ht.out
          rwa [List.take_of_length_le (by rw [hn.out]; exact Nat.le_refl _), List.take_of_length_le (by rw [← hy.out]; exact Nat.le_refl _)] at this
        replace hte := Lib.hid hte
        clear ht
        go_wp2_with fail
        go_ret
        exact ⟨hret.out _ (decide_eq_true hte.out), m, hm.out⟩
  · have hne : xs ≠ ys := fun e => hl (by rw [e])
    have hq : ((xs.length : Int) != ys.length) = true := by simp; omega
    replace hne := Lib.hid (ret_bool (decide_eq_false hne)).symm
    go_enter Tryd.func24, Tryd.ntmps24
    go_wp2_with fail
    all_goals go_ret
    all_goals exact ⟨hne.out, 0, rfl⟩
end Go.Proofs.YtaginadnaajleaaDoor
/-
  append of any row, nil or empty too, to a row that the call owns: the law, for a plain list and for a step of a region that draws.
  Conditions: as each theorem states them.
-/
namespace Go.Proofs.YtaginadnaajleaaDoor
open Go.RowKit
set_option linter.unusedVariables false
set_option linter.unusedSimpArgs false
/-- a slice of m elements that is read: its cells -/
def SrcAt (w : World) (v : Value) (m : Nat) (news : List Value) : Prop := ∃ a c, v = .slice a m c ∧ (a = none → m = 0) ∧ (∀ ad, a = some ad → ∀ j u, news[j]? = some u → w.cell? (ad.add j) = some u)
theorem SrcAt.below {w w' : World} {v : Value} {m : Nat} {news : List Value} (h : SrcAt w v m news) (hb : Below w.heap.size w w') : SrcAt w' v m news := by
  obtain ⟨a, c, rfl, h0, hc⟩ := h
  refine ⟨a, c, rfl, h0, fun ad e j u hj => ?_⟩
  have h1 := hc ad e j u hj
  have h2 : (ad.add j).block < w.heap.size := by
    rcases Nat.lt_or_ge (ad.add j).block w.heap.size with hl | hl
    · exact hl
    · unfold World.cell? at h1
      simp [Array.getElem?_eq_none hl] at h1
  exact (hb.cell h2).trans h1
theorem src_bytes {w : World} {v : Value} {xs : List UInt8} (h : BysAt w v xs) : SrcAt w v xs.length (Lib.byteCells xs) := by
  obtain ⟨a, c, rfl, h0, h⟩ := h
  refine ⟨a, c, rfl, h0, fun ad e j u hj => ?_⟩
  obtain ⟨hj', rfl⟩ := byteCells_get hj
  obtain ⟨p, o, e2, hp, hr⟩ := h (by omega)
  rw [e] at e2; cases e2
  have e1 : (⟨p, o, none⟩ : Addr).add j = ⟨p, o + j, none⟩ := by unfold Addr.add; by_cases h0 : j = 0 <;> simp [h0]
  rw [e1]
  exact hr j hj'
section
variable {P : Program} (w : World)
theorem run_append_none (base : Nat) (t ty e : TypeId) (i : TypeInfo) (size : Nat) (ht : P.underlying t = some (.slice e)) (hi : P.info? e = some i)
    (v : Value) (n : Nat) (xs : List Value) (c : Nat) (hown : w.ownsRow base e size v n xs) :
    (Builtin.append_ #[t, t] ty #[v, .slice none 0 c]).run P w = .ok v w := by
  rcases hown.2 with ⟨rfl, rfl⟩ | ⟨g, cap, cur, rfl, _, _, hnc, _⟩
  · simp [Builtin.append_, run_underlying ht, sizeOf, typeInfo, hi, Builtin.lenOf, Builtin.firstCells]
  · simp [Builtin.append_, run_underlying ht, sizeOf, typeInfo, hi, Builtin.lenOf, Builtin.firstCells, hnc, storeCells]
theorem run_append_src (base : Nat) (t ty e : TypeId) (i : TypeInfo) (z : Value) (size bytes : Nat) (ht : P.underlying t = some (.slice e)) (hi : P.info? e = some i) (hz : i.zero = some z)
    (hsize : i.size = size) (hby : i.bytes = bytes) (hzs : z.cells.size = size) (hsz : 0 < size)
    (v : Value) (n : Nat) (xs : List Value) (hown : w.ownsRow base e size v n xs)
    (sv : Value) (m : Nat) (news : List Value) (hsv : SrcAt w sv m news) (hl : news.length = m * size) (h1 : ∀ u ∈ news, u.oneCell' = true)
    (h63 : n + m ≤ maxLen) (hbytes : (n + m) * bytes ≤ 140737488355328) (hbase : base ≤ w.heap.size) :
    ∃ v' w', (Builtin.append_ #[t, t] ty #[v, sv]).run P w = .ok v' w' ∧ w'.ownsRow base e size v' (n + m) (xs ++ news) ∧ w.grownBy w' v.ownBlock := by
  obtain ⟨a, c, rfl, h0, hc⟩ := hsv
  cases a with
  | none =>
    obtain rfl := h0 rfl
    refine ⟨v, w, run_append_none w base t ty e i size ht hi v n xs c hown, ?_, ⟨rfl, rfl, rfl, Nat.le_refl _, fun k _ _ => rfl⟩⟩
    have : news = [] := List.eq_nil_of_length_eq_zero (by rw [hl, Nat.zero_mul])
    subst this
    rw [List.append_nil, Nat.add_zero]
    exact hown
  | some ad =>
    obtain ⟨v', w', hr, h2, h3, _, _⟩ := run_append_own_at (P := P) w base t ty e i z size bytes ht hi hz hsize hby hzs hsz v n xs hown ad m c news hl (hc ad rfl) h1 h63 hbytes hbase
    exact ⟨v', w', hr, h2, h3⟩
theorem wpList_append_src {ops : Array Oper} {rest : List Oper} {o : Oper} {a : Act} {Q : Exit → Act → World → Prop} (hgd : o.guard = none) (s x : Operand) (t : TypeId)
    (ho : o.op = .call { callee := .builtin .append, args := #[s, x], argTypes := #[t, t] })
    (base : Nat) (e : TypeId) (i : TypeInfo) (z : Value) (size bytes : Nat) (ht : P.underlying t = some (.slice e)) (hi : P.info? e = some i) (hz : i.zero = some z)
    (hsize : i.size = size) (hby : i.bytes = bytes) (hzs : z.cells.size = size) (hsz : 0 < size)
    (v : Value) (n : Nat) (xs : List Value) (hs : a.eval s = v) (hown : w.ownsRow base e size v n xs)
    (sv : Value) (m : Nat) (news : List Value) (hx : a.eval x = sv) (hsv : SrcAt w sv m news) (hl : news.length = m * size) (h1 : ∀ u ∈ news, u.oneCell' = true)
    (h63 : n + m ≤ maxLen) (hbytes : (n + m) * bytes ≤ 140737488355328) (hbase : base ≤ w.heap.size)
    (h : ∀ v' w', w'.ownsRow base e size v' (n + m) (xs ++ news) → w.grownBy w' v.ownBlock → wpList P ops Q rest (a.put o.dst v') w') :
    wpList P ops Q (o :: rest) a w := by
  refine wpList_plain hgd fun K hK => ?_
  obtain ⟨v', w', hr, h2, h3⟩ := run_append_src (P := P) w base t o.type e i z size bytes ht hi hz hsize hby hzs hsz v n xs hown sv m news hsv hl h1 h63 hbytes hbase
  unfold Oper.wp execOp
  simp only [ho, resolve, invoke, builtin, Sem.run_bind, Sem.run_pure, Result.andThen_ok, List.map_toArray, List.map_cons, List.map_nil, hs, hx, hr]
  exact hK _ _ (h v' w' h2 h3)
/-- at an operation -/
theorem wp_append_src {o : Oper} {a : Act} {K : Act → World → Prop} {Q : Exit → Act → World → Prop} (s x : Operand) (t : TypeId)
    (ho : o.op = .call { callee := .builtin .append, args := #[s, x], argTypes := #[t, t] })
    (base : Nat) (e : TypeId) (i : TypeInfo) (z : Value) (size bytes : Nat) (ht : P.underlying t = some (.slice e)) (hi : P.info? e = some i) (hz : i.zero = some z)
    (hsize : i.size = size) (hby : i.bytes = bytes) (hzs : z.cells.size = size) (hsz : 0 < size)
    (v : Value) (n : Nat) (xs : List Value) (hs : a.eval s = v) (hown : w.ownsRow base e size v n xs)
    (sv : Value) (m : Nat) (news : List Value) (hx : a.eval x = sv) (hsv : SrcAt w sv m news) (hl : news.length = m * size) (h1 : ∀ u ∈ news, u.oneCell' = true)
    (h63 : n + m ≤ maxLen) (hbytes : (n + m) * bytes ≤ 140737488355328) (hbase : base ≤ w.heap.size)
    (h : ∀ v' w', w'.ownsRow base e size v' (n + m) (xs ++ news) → w.grownBy w' v.ownBlock → K (a.put o.dst v') w') : o.wp P a w K Q := by
  obtain ⟨v', w', hr, h2, h3⟩ := run_append_src (P := P) w base t o.type e i z size bytes ht hi hz hsize hby hzs hsz v n xs hown sv m news hsv hl h1 h63 hbytes hbase
  unfold Oper.wp execOp
  simp only [ho, resolve, invoke, builtin, Sem.run_bind, Sem.run_pure, Result.andThen_ok, List.map_toArray, List.map_cons, List.map_nil, hs, hx, hr]
  exact h v' w' h2 h3
end
theorem bytes_one (xs : List UInt8) : ∀ u ∈ Lib.byteCells xs, u.oneCell' = true := by
  intro u hu
  obtain ⟨j, hj⟩ := List.mem_iff_getElem?.1 hu
  obtain ⟨_, rfl⟩ := byteCells_get hj
  rfl
theorem byteCells_len (xs : List UInt8) : (Lib.byteCells xs).length = xs.length * 1 := by rw [Nat.mul_one]; simp [Lib.byteCells]
set_option maxHeartbeats 2000000 in
/-- the same bytes, by themselves -/
theorem copy_any (v : Value) (xs : List UInt8) (hl : xs.length ≤ 1000000000000) (w : World) (h : BysAt w v xs) :
    Calls Tryd.prog 27 #[v] w fun e w' => ∃ v', e = .returned v' ∧ w'.ownsRow w.heap.size 5 1 v' xs.length (Lib.byteCells xs) ∧ Below w.heap.size w w' := by
  obtain ⟨i0, hi, hz0, hz1, hz2⟩ := info_parts infoByteB
  have hown := Lib.hid (World.ownsRow_made (base := w.heap.size) (e := 5) (size := 1) w #[] 0 (Nat.le_refl _) (by decide) rfl)
  have hsrc := Lib.hid (src_bytes (h.below (bl_alloc (Below.refl w.heap.size w) (.cells #[] 5))))
  have hbl := Lib.hid (byteCells_len xs)
  have hb1 := Lib.hid (bytes_one xs)
  obtain ⟨n, hn⟩ : ∃ n, xs.length = n := ⟨_, rfl⟩
  rw [hn] at hl hsrc hbl ⊢
  clear h hn
  go_enter Tryd.func27, Tryd.ntmps27
  go_wp2_with (at_builtin; refine wpList_append_src _ rfl (.tmp 3) (.tmp 4) 23 rfl w.heap.size 5 i0 (.int .u8 0) 1 1 Tryd.underlying23 hi hz0 hz1 hz2 rfl (by decide) _ _ _ rfl hown.out _ n _ rfl hsrc.out hbl.out hb1.out (by unfold maxLen; omega) (by omega) (by simp) ?_; intro v1 w1 hown1 hgrow1)
  all_goals go_ret
  all_goals exact ⟨_, rfl, by simpa using hown1, (bl_alloc (Below.refl _ _) _).grown hgrow1 (by simp) (fun j hj => (hown.out.lt j hj).1)⟩
end Go.Proofs.YtaginadnaajleaaDoor
