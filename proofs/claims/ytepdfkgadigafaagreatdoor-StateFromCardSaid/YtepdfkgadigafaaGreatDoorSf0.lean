/-
  state.From of any list of texts, of chapter 20.
  Conditions: as each theorem states them.
-/
import Derived.Test.YtepdfkgadigafaaGreatDoorSfd
import Derived.Test.YtepdfkgadigafaaGreatDoorCpB
namespace Go.Proofs.YtepdfkgadigafaaGreatDoor
open Go.RowKit Go.Sort
set_option linter.unusedVariables false
set_option linter.unusedSimpArgs false
attribute [local go_sem ↓] load_st store_st
theorem from_look {l : List (List UInt8)} {U : StV} (h : FM.fromS l = some U) (hx : ∀ z ∈ l, z.length ≤ 20000) : FM.ScI U.sc ∧ (∀ x ∈ U.waits, FM.I64 x.1) ∧ FitV U := by
  unfold FM.fromS at h
  split at h
  · split at h
    · injection h with h
      subst h
      exact ⟨scR_I _, fun x hm => ((ws_fit _ (hx _ (by simp))).2.1 x hm).2, raw_fit hx⟩
    · cases h
  · cases h
set_option maxHeartbeats 4000000 in
set_option maxRecDepth 100000 in
theorem from_no (a : Option Addr) (n c : Nat) (w : World) (hp : Pow w) (hn : n ≠ 10) (hn2 : n ≤ 1000000) :
    Calls Tryz.prog 13 #[.slice a n c] w (FromIs none w) := by
  obtain ⟨W1, hW1⟩ : ∃ X, w.alloc (.cells zeroC.cells.toArray 34) = X := ⟨_, rfl⟩
  have hB1 : Blk W1 w.heap.size 34 zeroC.cells := by rw [← hW1]; exact Blk.new w _ _
  have hb1 : Below w.heap.size w W1 := by rw [← hW1]; exact bl_alloc (Below.refl _ _) _
  have hfz := fields_look (zero_sin 0 W1.heap.size W1 (Nat.le_refl _)) (hp.below hb1) zero_look
  have q0 : ((n : Int) != 10) = true := by simp; omega
  have hst := fun X (hX : Below W1.heap.size W1 X) => stStore_is zeroC (hB1.below hX) rfl
  have hld := fun X (hX : Blk X w.heap.size 34 zeroC.cells) => stLoad_is zeroC hX
  unfold zeroC StC.cells at hfz hW1
  simp only [Sl3.v] at hfz hW1
  replace hfz := Lib.hid hfz
  replace hst := Lib.hid hst
  replace hld := Lib.hid hld
  replace hW1 := Lib.hid hW1
  clear hp hn
  go_enter Tryz.func13, Tryz.ntmps13
  go_upto_region 1 with fail
  rw [hW1.out]
  go_upto_region 2 with (go_at_call 11; (with_reducible refine hfz.out.mono ?_); rintro e X1 ⟨az, cz, rfl, _, hy⟩)
  obtain ⟨Z, S1, hZ, hOZ⟩ := hst.out X1 hy
  have L2 := hld.out Z hZ
  have hbX := bl_trans hb1 hy
  have hbZ : Below w.heap.size w Z := hbX.trans (hOZ.below hbX.size (fun k hk => by rw [hk]; exact Nat.le_refl _))
  unfold zeroC StC.cells at S1
  simp only [Sl3.v] at S1
  go_wp2_with fail
  refine bodyPost_ret (v := .tuple #[.agg zeroC.cells.toArray, .bool false]) (by simp [results, Tryz.results13, ↓load_st, asAddr, L2, Result.andThen]) rfl ⟨zeroC, rfl, zero_sin _ _ _ (Nat.le_refl _), hbZ⟩
theorem from_any (a : Option Addr) (c : Nat) (l : List (List UInt8)) (w : World) (hp : Pow w) (hE : ErrAt w) (hl : l.length ≤ 1000000) (hx : ∀ z ∈ l, z.length ≤ 20000) (h : TxAt (fun _ => True) false w a l) :
    Calls Tryz.prog 13 #[.slice a l.length c] w (FromIs (FM.fromS l) w) := by
  by_cases h10 : l.length = 10
  · have := from_list a c l w hp hE h10 hx h
    rw [h10]
    exact this
  · have hn : FM.fromS l = none := by
      unfold FM.fromS
      split
      · rename_i h; exact absurd rfl h10
      · rfl
    rw [hn]
    exact from_no a l.length c w hp h10 hl
end Go.Proofs.YtepdfkgadigafaaGreatDoor
