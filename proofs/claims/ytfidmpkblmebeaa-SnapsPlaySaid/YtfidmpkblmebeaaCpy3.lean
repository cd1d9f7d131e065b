/-
  state's copyFiles; of chapter 20.
  Conditions: as each theorem states them.
-/
import Derived.Test.YtfidmpkblmebeaaCpy1
import Derived.Deep.LoopGhost
import Derived.Deep.CutBlock
namespace Go.Proofs.Ytfidmpkblmebeaa
open Go.RowKit
set_option linter.unusedVariables false
set_option linter.unusedSimpArgs false
set_option maxHeartbeats 4000000 in
set_option maxRecDepth 100000 in
theorem copyFiles_any (w : World) {lo hi_ : Nat} {a : Option Addr} {n c : Nat} {l : List (List UInt8 × List UInt8)} (h : PrI strV lo hi_ w ⟨a, n, c⟩ l) (hW : hi_ ≤ w.heap.size) (hs : l.length ≤ 1000000000000) (hm : ∀ (i : Nat) (h : i < l.length), (l[i]).2.length ≤ 1000000000000) :
    Calls Try.prog 32 #[.slice a n c] w fun e w' => ∃ a' n' c', e = .returned (.slice a' n' c') ∧ PrI strV w.heap.size w'.heap.size w' ⟨a', n', c'⟩ l ∧ Below w.heap.size w w' := by
  go_enter Try.func32, Try.ntmps32
  obtain ⟨L, hL⟩ : ∃ L, l.length = L := ⟨_, rfl⟩
  have hc0 := clone_pr_files w h hW hs
  rw [hL] at hc0
  replace hc0 := Lib.hid hc0
  go_wp2_with (go_at_call 42; (with_reducible refine hc0.out.mono ?_); rintro e X ⟨a2, c2, rfl, p0, b0⟩; replace p0 := Lib.hid p0; replace b0 := Lib.hid b0)
  obtain ⟨N, hN⟩ : ∃ N, X.heap.size = N := ⟨_, rfl⟩
  rw [hN] at p0
  clear hN hc0
  go_loopg [9] L (fun gh v wr => ∃ m : Nat, gh = L - m ∧ v = .int .i64 (m : Int) ∧ m ≤ L ∧ Hid (PrL strV l 65 w.heap.size N lo hi_ (.slice a2 L c2) m wr) ∧ Hid (Below w.heap.size w wr))
  case atStart => exact ⟨0, rfl, rfl, Nat.zero_le _, p0, b0⟩
  case round =>
    obtain ⟨m, hgm, rfl, hmL, hp, hb⟩ := hrel
    replace hgm := hgm.symm
    subst hgm
    clear p0 b0
    rcases Nat.lt_or_ge m L with hlt | hlt
    · have hlt' : m < l.length := by omega
      obtain ⟨g, x, rfl, hg1, hg2, kx, fx, tx⟩ := hp.out.at' hlt'
      obtain ⟨xa, xn, xc⟩ := x
      have q1 : (0 : Int) ≤ (m : Int) := by omega
      have q2 : (m : Int) < (L : Int) := by omega
      have lt2 : g < wr.heap.size := Nat.lt_of_lt_of_le hg2 hp.out.top
      replace tx := Lib.hid tx
      have hl := Lib.hid (hm m hlt')
      go_wp2_with (go_at_call 29; (with_reducible refine (clone_tx _ tx.out hl.out).mono ?_); rintro e Y ⟨a5, n5, c5, rfl, t5, hb5⟩; have k5 := (hb5.cell (p := ⟨g, m * 2 + 1, none⟩) lt2).trans kx; have f5 := (hb5.frozen (p := ⟨g, m * 2 + 1, none⟩) lt2).trans fx; have lt5 : g < Y.heap.size := Nat.lt_of_lt_of_le lt2 hb5.size; have hpY := PrL.put' (s := ⟨a5, n5, c5⟩) hL hp.out hlt' hb5 t5; have hbY := Lib.hid (bl_setCell (hb.out.trans (hb5.mono hb.out.size)) (p := ⟨g, m * 2 + 1, none⟩) hg1 (.slice a5 n5 c5)); replace hpY := Lib.hid hpY; replace hb5 := Lib.hid hb5; replace t5 := Lib.hid t5)
      go_roundg (L - (m + 1))
      case measure => omega
      case rel => exact ⟨m + 1, rfl, by push_cast; rfl, by omega, hpY, hbY⟩
    · obtain rfl : m = L := Nat.le_antisymm hmL hlt
      have hdone := Lib.hid (hp.out.done' hL hs)
      have q1 : ¬ ((m : Int) < (m : Int)) := by omega
      clear hp
      go_wp2_with fail
      go_ret
      exact ⟨_, _, _, rfl, hdone.out, hb.out⟩
end Go.Proofs.Ytfidmpkblmebeaa
