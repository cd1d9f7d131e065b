/-
  What the reference takes of a state; whether a text stands in another one; of chapter 27.
  Conditions: as each theorem states them.
-/
import Derived.Test.YtcjcflmnghhbaaaGreatCondJa
import Derived.Test.YtcjcflmnghhbaaaGreatSameB
import Derived.Test.YtcjcflmnghhbaaaGreatCutQ
import Derived.Lib.IndexMore
import Derived.Test.YtcjcflmnghhbaaaGreatRc0
import Derived.Test.YtcjcflmnghhbaaaGreatCondAw
import Derived.Deep.RegionHeld3
import Derived.Deep.CutBlock
import Derived.Deep.LoopGhost
namespace Go.Proofs.YtcjcflmnghhbaaaGreat
open Go.RowKit
set_option linter.unusedVariables false
set_option linter.unusedSimpArgs false
open CM (Sv)
set_option maxRecDepth 100000 in
theorem rnum_line {W : World} {s : StC} {v : Sv} (h : StSv W s v) : Calls Tryz.prog 41 #[.agg s.cells.toArray, strV CM.lineW] W fun e w' => e = .returned (.int .i64 v.line) ∧ Below W.heap.size W w' := by
  have hB := Blk.new W 35 s.cells
  have hb : Below W.heap.size W (W.alloc (.cells s.cells.toArray 35)) := bl_alloc (Below.refl _ _) _
  have c0 : (W.alloc (.cells s.cells.toArray 35)).cell? ⟨W.heap.size, 3, none⟩ = some (.int .i64 s.line) := hB.cell 3
  have hl := hB.lt
  rw [h.line]
  clear hB h
  generalize s.cells.toArray = C at *
  obtain ⟨W1, hW1⟩ : ∃ W1, W.alloc (.cells C 35) = W1 := ⟨_, rfl⟩
  rw [hW1] at hb c0 hl
  replace hW1 := Lib.hid hW1
  go_enter Tryz.func41, Tryz.ntmps41
  go_upto_region 1 with fail
  rw [hW1.out]
  go_wp2_with fail
  go_ret
  exact ⟨rfl, hb⟩
set_option maxRecDepth 100000 in
theorem rnum_pc {W : World} {s : StC} {v : Sv} (h : StSv W s v) : Calls Tryz.prog 41 #[.agg s.cells.toArray, strV CM.pcW] W fun e w' => e = .returned (.int .i64 v.pc) ∧ Below W.heap.size W w' := by
  have hB := Blk.new W 35 s.cells
  have hb : Below W.heap.size W (W.alloc (.cells s.cells.toArray 35)) := bl_alloc (Below.refl _ _) _
  have c0 : (W.alloc (.cells s.cells.toArray 35)).cell? ⟨W.heap.size, 16, none⟩ = some (.int .i64 s.pc) := hB.cell 16
  have hl := hB.lt
  rw [h.pc]
  clear hB h
  generalize s.cells.toArray = C at *
  obtain ⟨W1, hW1⟩ : ∃ W1, W.alloc (.cells C 35) = W1 := ⟨_, rfl⟩
  rw [hW1] at hb c0 hl
  replace hW1 := Lib.hid hW1
  go_enter Tryz.func41, Tryz.ntmps41
  go_upto_region 1 with fail
  rw [hW1.out]
  go_wp2_with fail
  go_ret
  exact ⟨rfl, hb⟩
set_option maxRecDepth 100000 in
theorem rnum_exit {W : World} {s : StC} {v : Sv} (h : StSv W s v) : Calls Tryz.prog 41 #[.agg s.cells.toArray, strV CM.exitW] W fun e w' => e = .returned (.int .i64 v.exit) ∧ Below W.heap.size W w' := by
  have hB := Blk.new W 35 s.cells
  have hb : Below W.heap.size W (W.alloc (.cells s.cells.toArray 35)) := bl_alloc (Below.refl _ _) _
  have c0 : (W.alloc (.cells s.cells.toArray 35)).cell? ⟨W.heap.size, 17, none⟩ = some (.int .i64 s.exit) := hB.cell 17
  have hl := hB.lt
  rw [h.exit]
  clear hB h
  generalize s.cells.toArray = C at *
  obtain ⟨W1, hW1⟩ : ∃ W1, W.alloc (.cells C 35) = W1 := ⟨_, rfl⟩
  rw [hW1] at hb c0 hl
  replace hW1 := Lib.hid hW1
  go_enter Tryz.func41, Tryz.ntmps41
  go_upto_region 1 with fail
  rw [hW1.out]
  go_wp2_with fail
  go_ret
  exact ⟨rfl, hb⟩
set_option maxRecDepth 100000 in
theorem rnum_waits {W : World} {s : StC} {v : Sv} (h : StSv W s v) : Calls Tryz.prog 41 #[.agg s.cells.toArray, strV CM.waitsW] W fun e w' => e = .returned (.int .i64 v.waits) ∧ Below W.heap.size W w' := by
  have hB := Blk.new W 35 s.cells
  have hb : Below W.heap.size W (W.alloc (.cells s.cells.toArray 35)) := bl_alloc (Below.refl _ _) _
  have c0 : (W.alloc (.cells s.cells.toArray 35)).cell? ⟨W.heap.size, 24, none⟩ = some (.slice s.waits.a s.waits.n s.waits.c) := hB.cell 24
  have hl := hB.lt
  rw [h.waits]
  clear hB h
  generalize s.cells.toArray = C at *
  obtain ⟨W1, hW1⟩ : ∃ W1, W.alloc (.cells C 35) = W1 := ⟨_, rfl⟩
  rw [hW1] at hb c0 hl
  replace hW1 := Lib.hid hW1
  go_enter Tryz.func41, Tryz.ntmps41
  go_upto_region 1 with fail
  rw [hW1.out]
  go_wp2_with fail
  go_ret
  exact ⟨rfl, hb⟩
theorem rnum_any {W : World} {s : StC} {v : Sv} (h : StSv W s v) {what : List UInt8} {f : Sv → Int} (hf : CM.numOf what = some f) : Calls Tryz.prog 41 #[.agg s.cells.toArray, strV what] W fun e w' => e = .returned (.int .i64 (f v)) ∧ Below W.heap.size W w' := by
  unfold CM.numOf at hf
  by_cases h1 : what = CM.lineW
  · subst h1; rw [if_pos rfl] at hf; injection hf with hf; subst hf; exact rnum_line h
  by_cases h2 : what = CM.pcW
  · subst h2; rw [if_neg (by decide), if_pos rfl] at hf; injection hf with hf; subst hf; exact rnum_pc h
  by_cases h3 : what = CM.exitW
  · subst h3; rw [if_neg (by decide), if_neg (by decide), if_pos rfl] at hf; injection hf with hf; subst hf; exact rnum_exit h
  by_cases h4 : what = CM.waitsW
  · subst h4; rw [if_neg (by decide), if_neg (by decide), if_neg (by decide), if_pos rfl] at hf; injection hf with hf; subst hf; exact rnum_waits h
  simp [h1, h2, h3, h4] at hf
set_option maxRecDepth 100000 in
theorem rtxt_pattern {W : World} {s : StC} {v : Sv} (h : StSv W s v) : Calls Tryz.prog 42 #[.agg s.cells.toArray, strV CM.patternW] W fun e w' => ∃ a c, e = .returned (.slice a v.pattern.length c) ∧ v.pattern.length ≤ c ∧ BytesAt w' a v.pattern ∧ v.pattern.length ≤ 100000 ∧ Below W.heap.size W w' := by
  have hB := Blk.new W 35 s.cells
  have hb : Below W.heap.size W (W.alloc (.cells s.cells.toArray 35)) := bl_alloc (Below.refl _ _) _
  have c0 : (W.alloc (.cells s.cells.toArray 35)).cell? ⟨W.heap.size, 0, none⟩ = some (.slice s.pat.a s.pat.n s.pat.c) := hB.cell 0
  have hl := hB.lt
  obtain ⟨t1, t2, t3, t4⟩ := h.pattern
  have t3' := t3.below hb
  rw [t1] at c0
  clear hB h t1 t3
  generalize s.cells.toArray = C at *
  obtain ⟨W1, hW1⟩ : ∃ W1, W.alloc (.cells C 35) = W1 := ⟨_, rfl⟩
  rw [hW1] at hb c0 hl t3'
  replace hW1 := Lib.hid hW1
  replace t3' := Lib.hid t3'
  go_enter Tryz.func42, Tryz.ntmps42
  go_upto_region 1 with fail
  rw [hW1.out]
  go_wp2_with fail
  go_ret
  exact ⟨_, _, rfl, t2, t3'.out, t4, hb⟩
set_option maxRecDepth 100000 in
theorem rtxt_hold {W : World} {s : StC} {v : Sv} (h : StSv W s v) : Calls Tryz.prog 42 #[.agg s.cells.toArray, strV CM.holdW] W fun e w' => ∃ a c, e = .returned (.slice a v.hold.length c) ∧ v.hold.length ≤ c ∧ BytesAt w' a v.hold ∧ v.hold.length ≤ 100000 ∧ Below W.heap.size W w' := by
  have hB := Blk.new W 35 s.cells
  have hb : Below W.heap.size W (W.alloc (.cells s.cells.toArray 35)) := bl_alloc (Below.refl _ _) _
  have c0 : (W.alloc (.cells s.cells.toArray 35)).cell? ⟨W.heap.size, 1, none⟩ = some (.slice s.hold.a s.hold.n s.hold.c) := hB.cell 1
  have hl := hB.lt
  obtain ⟨t1, t2, t3, t4⟩ := h.hold
  have t3' := t3.below hb
  rw [t1] at c0
  clear hB h t1 t3
  generalize s.cells.toArray = C at *
  obtain ⟨W1, hW1⟩ : ∃ W1, W.alloc (.cells C 35) = W1 := ⟨_, rfl⟩
  rw [hW1] at hb c0 hl t3'
  replace hW1 := Lib.hid hW1
  replace t3' := Lib.hid t3'
  go_enter Tryz.func42, Tryz.ntmps42
  go_upto_region 1 with fail
  rw [hW1.out]
  go_wp2_with fail
  go_ret
  exact ⟨_, _, rfl, t2, t3'.out, t4, hb⟩
set_option maxRecDepth 100000 in
theorem rtxt_rest {W : World} {s : StC} {v : Sv} (h : StSv W s v) : Calls Tryz.prog 42 #[.agg s.cells.toArray, strV CM.restW] W fun e w' => ∃ a c, e = .returned (.slice a v.rest.length c) ∧ v.rest.length ≤ c ∧ BytesAt w' a v.rest ∧ v.rest.length ≤ 100000 ∧ Below W.heap.size W w' := by
  have hB := Blk.new W 35 s.cells
  have hb : Below W.heap.size W (W.alloc (.cells s.cells.toArray 35)) := bl_alloc (Below.refl _ _) _
  have c0 : (W.alloc (.cells s.cells.toArray 35)).cell? ⟨W.heap.size, 10, none⟩ = some (.slice s.rest.a s.rest.n s.rest.c) := hB.cell 10
  have hl := hB.lt
  obtain ⟨t1, t2, t3, t4⟩ := h.rest
  have t3' := t3.below hb
  rw [t1] at c0
  clear hB h t1 t3
  generalize s.cells.toArray = C at *
  obtain ⟨W1, hW1⟩ : ∃ W1, W.alloc (.cells C 35) = W1 := ⟨_, rfl⟩
  rw [hW1] at hb c0 hl t3'
  replace hW1 := Lib.hid hW1
  replace t3' := Lib.hid t3'
  go_enter Tryz.func42, Tryz.ntmps42
  go_upto_region 1 with fail
  rw [hW1.out]
  go_wp2_with fail
  go_ret
  exact ⟨_, _, rfl, t2, t3'.out, t4, hb⟩
set_option maxRecDepth 100000 in
theorem rtxt_out {W : World} {s : StC} {v : Sv} (h : StSv W s v) : Calls Tryz.prog 42 #[.agg s.cells.toArray, strV CM.outW] W fun e w' => ∃ a c, e = .returned (.slice a v.out.length c) ∧ v.out.length ≤ c ∧ BytesAt w' a v.out ∧ v.out.length ≤ 100000 ∧ Below W.heap.size W w' := by
  have hB := Blk.new W 35 s.cells
  have hb : Below W.heap.size W (W.alloc (.cells s.cells.toArray 35)) := bl_alloc (Below.refl _ _) _
  have c0 : (W.alloc (.cells s.cells.toArray 35)).cell? ⟨W.heap.size, 11, none⟩ = some (.slice s.out.a s.out.n s.out.c) := hB.cell 11
  have hl := hB.lt
  obtain ⟨t1, t2, t3, t4⟩ := h.out
  have t3' := t3.below hb
  rw [t1] at c0
  clear hB h t1 t3
  generalize s.cells.toArray = C at *
  obtain ⟨W1, hW1⟩ : ∃ W1, W.alloc (.cells C 35) = W1 := ⟨_, rfl⟩
  rw [hW1] at hb c0 hl t3'
  replace hW1 := Lib.hid hW1
  replace t3' := Lib.hid t3'
  go_enter Tryz.func42, Tryz.ntmps42
  go_upto_region 1 with fail
  rw [hW1.out]
  go_wp2_with fail
  go_ret
  exact ⟨_, _, rfl, t2, t3'.out, t4, hb⟩
theorem rtxt_any {W : World} {s : StC} {v : Sv} (h : StSv W s v) {what : List UInt8} {f : Sv → List UInt8} (hf : CM.txtOf what = some f) : Calls Tryz.prog 42 #[.agg s.cells.toArray, strV what] W fun e w' => ∃ a c, e = .returned (.slice a (f v).length c) ∧ (f v).length ≤ c ∧ BytesAt w' a (f v) ∧ (f v).length ≤ 100000 ∧ Below W.heap.size W w' := by
  unfold CM.txtOf at hf
  by_cases h1 : what = CM.patternW
  · subst h1; rw [if_pos rfl] at hf; injection hf with hf; subst hf; exact rtxt_pattern h
  by_cases h2 : what = CM.holdW
  · subst h2; rw [if_neg (by decide), if_pos rfl] at hf; injection hf with hf; subst hf; exact rtxt_hold h
  by_cases h3 : what = CM.restW
  · subst h3; rw [if_neg (by decide), if_neg (by decide), if_pos rfl] at hf; injection hf with hf; subst hf; exact rtxt_rest h
  by_cases h4 : what = CM.outW
  · subst h4; rw [if_neg (by decide), if_neg (by decide), if_neg (by decide), if_pos rfl] at hf; injection hf with hf; subst hf; exact rtxt_out h
  simp [h1, h2, h3, h4] at hf
theorem has_yes {b t : List UInt8} {i : Nat} (hi : i + t.length ≤ b.length) (h : (b.drop i).take t.length = t) : CM.hasS b t = true := by
  unfold CM.hasS
  rw [decide_eq_true_eq]
  rcases Lib.index_spec b t with ⟨_, h2⟩ | ⟨j, h2, _⟩
  · have := h2 i (by omega)
    unfold Lib.occAt at this
    rw [List.isPrefixOf_iff_prefix.2 (by rw [← h]; exact List.take_prefix _ _)] at this
    cases this
  · rw [h2]; omega
theorem has_no {b t : List UInt8} (h : ∀ i, i + t.length ≤ b.length → (b.drop i).take t.length ≠ t) : CM.hasS b t = false := by
  unfold CM.hasS
  rw [decide_eq_false_iff_not]
  rcases Lib.index_spec b t with ⟨h2, _⟩ | ⟨j, h2, h3, h4, _⟩
  · rw [h2]; omega
  · exfalso
    unfold Lib.occAt at h4
    have h5 := List.isPrefixOf_iff_prefix.1 h4
    have h6 := h5.length_le
    rw [List.length_drop] at h6
    refine h j (by omega) ?_
    rw [List.prefix_iff_eq_take] at h5
    exact h5.symm
attribute [local go_sem ↓] run_cut_lh
set_option maxHeartbeats 4000000 in
set_option maxRecDepth 100000 in
theorem rhas_any (a1 a2 : Option Addr) (c1 c2 : Nat) (b t : List UInt8) (w : World) (l1 : b.length ≤ 140737488351232) (l2 : t.length ≤ 140737488351232) (hc : b.length ≤ c1) (h1 : BytesAt w a1 b) (h2 : BytesAt w a2 t) :
    Calls Tryz.prog 44 #[.slice a1 b.length c1, .slice a2 t.length c2] w fun e w' => e = .returned (.bool (CM.hasS b t)) ∧ ∃ m, w' = w.drewN m := by
  have hsm := Lib.hid (fun (i m : Nat) (hi : i + t.length ≤ b.length) => (by
    have := same_bytes (cutA a1 i c1 1) a2 (c1 - i) c2 ((b.drop i).take t.length) t (w.drewN m) (by simp; omega) l2 ((h1.drop hc i).take t.length) h2
    rw [show ((b.drop i).take t.length).length = t.length by simp; omega] at this
    exact this : Calls Tryz.prog 43 #[.slice (cutA a1 i c1 1) t.length (c1 - i), .slice a2 t.length c2] (w.drewN m) fun e w' => e = .returned (.bool (decide ((b.drop i).take t.length = t))) ∧ ∃ k, w' = (w.drewN m).drewN k))
  replace h1 := Lib.hid h1
  replace h2 := Lib.hid h2
  go_enter Tryz.func44, Tryz.ntmps44
  go_wp2_with fail
  go_loopg [5] (b.length + 1) (fun gh v wr => ∃ i m : Nat, gh = b.length + 1 - i ∧ v = .int .i64 (i : Int) ∧ i ≤ b.length + 1 ∧ Hid (∀ j, j < i → j + t.length ≤ b.length → (b.drop j).take t.length ≠ t) ∧ wr = w.drewN m)
  case atStart => exact ⟨0, 0, by omega, rfl, by omega, Lib.hid (fun j h => absurd h (Nat.not_lt_zero _)), rfl⟩
  case round =>
    obtain ⟨i, m, rfl, rfl, hi, hn, rfl⟩ := hrel
    have hw1 : IntKind.i64.wrap ((i : Int) + (t.length : Int)) = (i : Int) + (t.length : Int) := IntWalk.i64_in _ (by omega)
    by_cases hlt : i + t.length ≤ b.length
    · have q0 : decide ((i : Int) + (t.length : Int) ≤ (b.length : Int)) = true := by rw [decide_eq_true_eq]; omega
      have z0 : (0 : Int) ≤ (i : Int) := by omega
      have z1 : (i : Int) ≤ (i : Int) + (t.length : Int) := by omega
      have z2 : (i : Int) + (t.length : Int) ≤ (c1 : Int) := by omega
      have hsz : i + t.length - i = t.length := by omega
      have hc1 := hsm.out i m hlt
      by_cases he : (b.drop i).take t.length = t
      · have hy := Lib.hid (has_yes hlt he)
        rw [decide_eq_true he] at hc1
        replace hc1 := Lib.hid hc1
        clear he hsm
        go_wp2_with (go_at_call 43; (with_reducible refine hc1.out.mono ?_); rintro e w2 ⟨rfl, k, rfl⟩)
        go_ret
        exact ⟨by rw [hy.out]; rfl, _, rfl⟩
      · have hn2 := Lib.hid (fun j (hj : j < i + 1) (hl : j + t.length ≤ b.length) => (by
          by_cases e : j = i
          · subst e; exact he
          · exact hn.out j (by omega) hl : (b.drop j).take t.length ≠ t))
        rw [decide_eq_false he] at hc1
        replace hc1 := Lib.hid hc1
        clear he hsm
        go_wp2_with (go_at_call 43; (with_reducible refine hc1.out.mono ?_); rintro e w2 ⟨rfl, k, rfl⟩)
        go_roundg (b.length + 1 - (i + 1))
        case measure => omega
        case rel => exact ⟨i + 1, m + k, rfl, by go_num, by omega, hn2, rfl⟩
    · have q0 : decide ((i : Int) + (t.length : Int) ≤ (b.length : Int)) = false := by rw [decide_eq_false_iff_not]; omega
      have hy := Lib.hid (has_no (fun j hj => hn.out j (by omega) hj))
      clear hsm
      go_wp2_with fail
      go_ret
      exact ⟨by rw [hy.out]; rfl, _, rfl⟩
end Go.Proofs.YtcjcflmnghhbaaaGreat
/-
  The reference's Holds at a flag, at a phase; of chapter 27. (Printed by gen_rh1.py.)
  Conditions: as each theorem states them.
-/
namespace Go.Proofs.YtcjcflmnghhbaaaGreat
open Go.RowKit
set_option linter.unusedVariables false
set_option linter.unusedSimpArgs false
attribute [local go_sem ↓] load_st
open CM (Sv)
/-- a node's cells -/
def nodeC (what : List UInt8) (la : Option Addr) (ln lc : Nat) (sign : List UInt8) (n : Int) (ba : Option Addr) (bn bc : Nat) : List Value := [strV what, .slice la ln lc, strV sign, .int .i64 n, .slice ba bn bc]
/-- the blocks from lo to hi are as they were -/
def KeepI (lo hi : Nat) (W W' : World) : Prop := W.heap.size ≤ W'.heap.size ∧ ∀ k, lo ≤ k → k < hi → W'.heap[k]? = W.heap[k]?
theorem KeepI.refl (lo hi : Nat) (W : World) : KeepI lo hi W W := ⟨Nat.le_refl _, fun _ _ _ => rfl⟩
theorem KeepI.trans {lo hi : Nat} {a b c : World} (h : KeepI lo hi a b) (k : KeepI lo hi b c) : KeepI lo hi a c := ⟨Nat.le_trans h.1 k.1, fun i h1 h2 => (k.2 i h1 h2).trans (h.2 i h1 h2)⟩
theorem KeepI.sub {lo hi lo' hi' : Nat} {a b : World} (h : KeepI lo hi a b) (h1 : lo ≤ lo') (h2 : hi' ≤ hi) : KeepI lo' hi' a b := ⟨h.1, fun k hk hk2 => h.2 k (by omega) (by omega)⟩
theorem KeepI.only {K : Nat → Prop} {lo hi : Nat} {a b : World} (ho : Only K a b) (hh : hi ≤ a.heap.size) (hK : ∀ k, lo ≤ k → k < hi → ¬ K k) : KeepI lo hi a b := ⟨ho.size, fun k h1 h2 => ho.block k (by omega) (hK k h1 h2)⟩
theorem KeepI.below {lo hi : Nat} {a b : World} (hb : Below a.heap.size a b) (hh : hi ≤ a.heap.size) : KeepI lo hi a b := ⟨hb.size, fun k h1 h2 => hb.block k (by omega)⟩
/-- a node that holds of two states what phi says, as long as the blocks from lo to hi stay -/
def NodeIs (lo hi : Nat) (v : List Value) (phi : CM.M) (W : World) : Prop := hi ≤ W.heap.size ∧ (∃ what la ln lc sign n ba bn bc, v = nodeC what la ln lc sign n ba bn bc) ∧ ∀ W', KeepI lo hi W W' → ∀ s1 s2 v1 v2, StSv W' s1 v1 → StSv W' s2 v2 →
  Calls Tryz.prog 27 #[.agg v.toArray, .agg s1.cells.toArray, .agg s2.cells.toArray] W' fun e w' => e = .returned (.bool (phi v1 v2)) ∧ Below W'.heap.size W' w'
theorem NodeIs.keep {lo hi : Nat} {v : List Value} {phi : CM.M} {W W' : World} (h : NodeIs lo hi v phi W) (hk : KeepI lo hi W W') : NodeIs lo hi v phi W' := ⟨Nat.le_trans h.1 hk.1, h.2.1, fun W2 h2 => h.2.2 W2 (hk.trans h2)⟩
theorem NodeIs.wide {lo hi lo' hi' : Nat} {v : List Value} {phi : CM.M} {W : World} (h : NodeIs lo hi v phi W) (h1 : lo' ≤ lo) (h2 : hi ≤ hi') (h3 : hi' ≤ W.heap.size) : NodeIs lo' hi' v phi W := ⟨h3, h.2.1, fun W2 hk => h.2.2 W2 (hk.sub h1 h2)⟩
theorem NodeIs.congr {lo hi : Nat} {v : List Value} {phi psi : CM.M} {W : World} (h : NodeIs lo hi v phi W) (he : ∀ a b, phi a b = psi a b) : NodeIs lo hi v psi W := ⟨h.1, h.2.1, fun W2 hk s1 s2 v1 v2 h1 h2 => by rw [← he]; exact h.2.2 W2 hk s1 s2 v1 v2 h1 h2⟩
/-- three blocks more -/
theorem three (W : World) (t1 t2 t3 : TypeId) (c1 c2 c3 : List Value) : ∃ W3, ((W.alloc (.cells c1.toArray t1)).alloc (.cells c2.toArray t2)).alloc (.cells c3.toArray t3) = W3 ∧ Blk W3 W.heap.size t1 c1 ∧ Blk W3 (W.heap.size + 1) t2 c2 ∧ Blk W3 (W.heap.size + 1 + 1) t3 c3 ∧ Below W.heap.size W W3 := by
  refine ⟨_, rfl, ((Blk.new W _ _).alloc _).alloc _, ?_, ?_, bl_alloc (bl_alloc (bl_alloc (Below.refl _ _) _) _) _⟩
  · have := (Blk.new (W.alloc (.cells c1.toArray t1)) t2 c2).alloc (.cells c3.toArray t3)
    simpa using this
  · have := Blk.new ((W.alloc (.cells c1.toArray t1)).alloc (.cells c2.toArray t2)) t3 c3
    simpa using this
set_option maxHeartbeats 4000000 in
set_option maxRecDepth 100000 in
theorem node_subst {lo hi : Nat} {W : World} (hh : hi ≤ W.heap.size) (la : Option Addr) (ln lc : Nat) (sign : List UInt8) (n : Int) (ba : Option Addr) (bn bc : Nat) : NodeIs lo hi (nodeC CM.substW la ln lc sign n ba bn bc) (fun _ now => now.subst) W := by
  refine ⟨hh, ⟨_, _, _, _, _, _, _, _, _, rfl⟩, ?_⟩
  intro W' hkp s1 s2 v1 v2 h1 h2
  obtain ⟨W3, hW3, hN, hS1, hS2, hb⟩ := three W' 81 35 35 (nodeC CM.substW la ln lc sign n ba bn bc) s1.cells s2.cells
  have n0 : W3.cell? ⟨W'.heap.size, 0, none⟩ = _ := hN.cell 0
  have n1 : W3.cell? ⟨W'.heap.size, 1, none⟩ = _ := hN.cell 1
  have n2 : W3.cell? ⟨W'.heap.size, 2, none⟩ = _ := hN.cell 2
  have n3 : W3.cell? ⟨W'.heap.size, 3, none⟩ = _ := hN.cell 3
  have n4 : W3.cell? ⟨W'.heap.size, 4, none⟩ = _ := hN.cell 4
  unfold nodeC at n0 n1 n2 n3 n4 hW3 ⊢
  simp only [List.getElem?_cons_zero, List.getElem?_cons_succ] at n0 n1 n2 n3 n4
  have l0 := hN.lt
  have l1 := hS1.lt
  have l2 := hS2.lt
  have c0 : W3.cell? ⟨W'.heap.size + 1 + 1, 4, none⟩ = some (.bool s2.subst) := hS2.cell 4
  have e1 : v2.subst = s2.subst := h2.subst
  clear hN hS1 hS2 h1 h2 hkp
  obtain ⟨C1, hC1⟩ : ∃ C, s1.cells.toArray = C := ⟨_, rfl⟩
  obtain ⟨C2, hC2⟩ : ∃ C, s2.cells.toArray = C := ⟨_, rfl⟩
  rw [hC1, hC2] at hW3
  rw [hC1, hC2]
  replace hC1 := Lib.hid hC1
  replace hC2 := Lib.hid hC2
  replace hW3 := Lib.hid hW3
  replace e1 := Lib.hid e1
  go_enter Tryz.func27, Tryz.ntmps27
  go_upto_region 1 with fail
  rw [hW3.out]
  go_wp2_with fail
  go_ret
  exact ⟨by show _ = Ending.returned (.bool (v2.subst)); rw [e1.out]; rfl, hb⟩
set_option maxHeartbeats 4000000 in
set_option maxRecDepth 100000 in
theorem node_silent {lo hi : Nat} {W : World} (hh : hi ≤ W.heap.size) (la : Option Addr) (ln lc : Nat) (sign : List UInt8) (n : Int) (ba : Option Addr) (bn bc : Nat) : NodeIs lo hi (nodeC CM.silentW la ln lc sign n ba bn bc) (fun _ now => now.silent) W := by
  refine ⟨hh, ⟨_, _, _, _, _, _, _, _, _, rfl⟩, ?_⟩
  intro W' hkp s1 s2 v1 v2 h1 h2
  obtain ⟨W3, hW3, hN, hS1, hS2, hb⟩ := three W' 81 35 35 (nodeC CM.silentW la ln lc sign n ba bn bc) s1.cells s2.cells
  have n0 : W3.cell? ⟨W'.heap.size, 0, none⟩ = _ := hN.cell 0
  have n1 : W3.cell? ⟨W'.heap.size, 1, none⟩ = _ := hN.cell 1
  have n2 : W3.cell? ⟨W'.heap.size, 2, none⟩ = _ := hN.cell 2
  have n3 : W3.cell? ⟨W'.heap.size, 3, none⟩ = _ := hN.cell 3
  have n4 : W3.cell? ⟨W'.heap.size, 4, none⟩ = _ := hN.cell 4
  unfold nodeC at n0 n1 n2 n3 n4 hW3 ⊢
  simp only [List.getElem?_cons_zero, List.getElem?_cons_succ] at n0 n1 n2 n3 n4
  have l0 := hN.lt
  have l1 := hS1.lt
  have l2 := hS2.lt
  have c0 : W3.cell? ⟨W'.heap.size + 1 + 1, 20, none⟩ = some (.bool s2.silent) := hS2.cell 20
  have e1 : v2.silent = s2.silent := h2.silent
  clear hN hS1 hS2 h1 h2 hkp
  obtain ⟨C1, hC1⟩ : ∃ C, s1.cells.toArray = C := ⟨_, rfl⟩
  obtain ⟨C2, hC2⟩ : ∃ C, s2.cells.toArray = C := ⟨_, rfl⟩
  rw [hC1, hC2] at hW3
  rw [hC1, hC2]
  replace hC1 := Lib.hid hC1
  replace hC2 := Lib.hid hC2
  replace hW3 := Lib.hid hW3
  replace e1 := Lib.hid e1
  go_enter Tryz.func27, Tryz.ntmps27
  go_upto_region 1 with fail
  rw [hW3.out]
  go_wp2_with fail
  go_ret
  exact ⟨by show _ = Ending.returned (.bool (v2.silent)); rw [e1.out]; rfl, hb⟩
set_option maxHeartbeats 4000000 in
set_option maxRecDepth 100000 in
theorem node_quit {lo hi : Nat} {W : World} (hh : hi ≤ W.heap.size) (la : Option Addr) (ln lc : Nat) (sign : List UInt8) (n : Int) (ba : Option Addr) (bn bc : Nat) : NodeIs lo hi (nodeC CM.quitW la ln lc sign n ba bn bc) (fun _ now => now.quit) W := by
  refine ⟨hh, ⟨_, _, _, _, _, _, _, _, _, rfl⟩, ?_⟩
  intro W' hkp s1 s2 v1 v2 h1 h2
  obtain ⟨W3, hW3, hN, hS1, hS2, hb⟩ := three W' 81 35 35 (nodeC CM.quitW la ln lc sign n ba bn bc) s1.cells s2.cells
  have n0 : W3.cell? ⟨W'.heap.size, 0, none⟩ = _ := hN.cell 0
  have n1 : W3.cell? ⟨W'.heap.size, 1, none⟩ = _ := hN.cell 1
  have n2 : W3.cell? ⟨W'.heap.size, 2, none⟩ = _ := hN.cell 2
  have n3 : W3.cell? ⟨W'.heap.size, 3, none⟩ = _ := hN.cell 3
  have n4 : W3.cell? ⟨W'.heap.size, 4, none⟩ = _ := hN.cell 4
  unfold nodeC at n0 n1 n2 n3 n4 hW3 ⊢
  simp only [List.getElem?_cons_zero, List.getElem?_cons_succ] at n0 n1 n2 n3 n4
  have l0 := hN.lt
  have l1 := hS1.lt
  have l2 := hS2.lt
  have c0 : W3.cell? ⟨W'.heap.size + 1 + 1, 21, none⟩ = some (.bool s2.quit) := hS2.cell 21
  have e1 : v2.quit = s2.quit := h2.quit
  clear hN hS1 hS2 h1 h2 hkp
  obtain ⟨C1, hC1⟩ : ∃ C, s1.cells.toArray = C := ⟨_, rfl⟩
  obtain ⟨C2, hC2⟩ : ∃ C, s2.cells.toArray = C := ⟨_, rfl⟩
  rw [hC1, hC2] at hW3
  rw [hC1, hC2]
  replace hC1 := Lib.hid hC1
  replace hC2 := Lib.hid hC2
  replace hW3 := Lib.hid hW3
  replace e1 := Lib.hid e1
  go_enter Tryz.func27, Tryz.ntmps27
  go_upto_region 1 with fail
  rw [hW3.out]
  go_wp2_with fail
  go_ret
  exact ⟨by show _ = Ending.returned (.bool (v2.quit)); rw [e1.out]; rfl, hb⟩
set_option maxHeartbeats 4000000 in
set_option maxRecDepth 100000 in
theorem node_again {lo hi : Nat} {W : World} (hh : hi ≤ W.heap.size) (la : Option Addr) (ln lc : Nat) (sign : List UInt8) (n : Int) (ba : Option Addr) (bn bc : Nat) : NodeIs lo hi (nodeC CM.againW la ln lc sign n ba bn bc) (fun _ now => now.again) W := by
  refine ⟨hh, ⟨_, _, _, _, _, _, _, _, _, rfl⟩, ?_⟩
  intro W' hkp s1 s2 v1 v2 h1 h2
  obtain ⟨W3, hW3, hN, hS1, hS2, hb⟩ := three W' 81 35 35 (nodeC CM.againW la ln lc sign n ba bn bc) s1.cells s2.cells
  have n0 : W3.cell? ⟨W'.heap.size, 0, none⟩ = _ := hN.cell 0
  have n1 : W3.cell? ⟨W'.heap.size, 1, none⟩ = _ := hN.cell 1
  have n2 : W3.cell? ⟨W'.heap.size, 2, none⟩ = _ := hN.cell 2
  have n3 : W3.cell? ⟨W'.heap.size, 3, none⟩ = _ := hN.cell 3
  have n4 : W3.cell? ⟨W'.heap.size, 4, none⟩ = _ := hN.cell 4
  unfold nodeC at n0 n1 n2 n3 n4 hW3 ⊢
  simp only [List.getElem?_cons_zero, List.getElem?_cons_succ] at n0 n1 n2 n3 n4
  have l0 := hN.lt
  have l1 := hS1.lt
  have l2 := hS2.lt
  have c0 : W3.cell? ⟨W'.heap.size + 1 + 1, 22, none⟩ = some (.bool s2.again) := hS2.cell 22
  have e1 : v2.again = s2.again := h2.again
  clear hN hS1 hS2 h1 h2 hkp
  obtain ⟨C1, hC1⟩ : ∃ C, s1.cells.toArray = C := ⟨_, rfl⟩
  obtain ⟨C2, hC2⟩ : ∃ C, s2.cells.toArray = C := ⟨_, rfl⟩
  rw [hC1, hC2] at hW3
  rw [hC1, hC2]
  replace hC1 := Lib.hid hC1
  replace hC2 := Lib.hid hC2
  replace hW3 := Lib.hid hW3
  replace e1 := Lib.hid e1
  go_enter Tryz.func27, Tryz.ntmps27
  go_upto_region 1 with fail
  rw [hW3.out]
  go_wp2_with fail
  go_ret
  exact ⟨by show _ = Ending.returned (.bool (v2.again)); rw [e1.out]; rfl, hb⟩
set_option maxHeartbeats 4000000 in
set_option maxRecDepth 100000 in
theorem node_err {lo hi : Nat} {W : World} (hh : hi ≤ W.heap.size) (la : Option Addr) (ln lc : Nat) (sign : List UInt8) (n : Int) (ba : Option Addr) (bn bc : Nat) : NodeIs lo hi (nodeC CM.failedW la ln lc sign n ba bn bc) (fun _ now => now.err != 0) W := by
  refine ⟨hh, ⟨_, _, _, _, _, _, _, _, _, rfl⟩, ?_⟩
  intro W' hkp s1 s2 v1 v2 h1 h2
  obtain ⟨W3, hW3, hN, hS1, hS2, hb⟩ := three W' 81 35 35 (nodeC CM.failedW la ln lc sign n ba bn bc) s1.cells s2.cells
  have n0 : W3.cell? ⟨W'.heap.size, 0, none⟩ = _ := hN.cell 0
  have n1 : W3.cell? ⟨W'.heap.size, 1, none⟩ = _ := hN.cell 1
  have n2 : W3.cell? ⟨W'.heap.size, 2, none⟩ = _ := hN.cell 2
  have n3 : W3.cell? ⟨W'.heap.size, 3, none⟩ = _ := hN.cell 3
  have n4 : W3.cell? ⟨W'.heap.size, 4, none⟩ = _ := hN.cell 4
  unfold nodeC at n0 n1 n2 n3 n4 hW3 ⊢
  simp only [List.getElem?_cons_zero, List.getElem?_cons_succ] at n0 n1 n2 n3 n4
  have l0 := hN.lt
  have l1 := hS1.lt
  have l2 := hS2.lt
  have c0 : W3.cell? ⟨W'.heap.size + 1 + 1, 19, none⟩ = some (.int .i64 s2.err) := hS2.cell 19
  have e1 : v2.err = s2.err := h2.err
  clear hN hS1 hS2 h1 h2 hkp
  obtain ⟨C1, hC1⟩ : ∃ C, s1.cells.toArray = C := ⟨_, rfl⟩
  obtain ⟨C2, hC2⟩ : ∃ C, s2.cells.toArray = C := ⟨_, rfl⟩
  rw [hC1, hC2] at hW3
  rw [hC1, hC2]
  replace hC1 := Lib.hid hC1
  replace hC2 := Lib.hid hC2
  replace hW3 := Lib.hid hW3
  replace e1 := Lib.hid e1
  go_enter Tryz.func27, Tryz.ntmps27
  go_upto_region 1 with fail
  rw [hW3.out]
  go_wp2_with fail
  go_ret
  exact ⟨by show _ = Ending.returned (.bool (v2.err != 0)); rw [e1.out]; rfl, hb⟩
theorem NodeIs.flag {lo hi : Nat} {W : World} (hh : hi ≤ W.heap.size) {what : List UInt8} {f : Sv → Bool} (hf : CM.flagOf what = some f) (la : Option Addr) (ln lc : Nat) (sign : List UInt8) (n : Int) (ba : Option Addr) (bn bc : Nat) : NodeIs lo hi (nodeC what la ln lc sign n ba bn bc) (fun _ now => f now) W := by
  unfold CM.flagOf at hf
  by_cases h1 : what = CM.substW
  · subst h1; rw [if_pos rfl] at hf; injection hf with hf; subst hf; exact node_subst hh la ln lc sign n ba bn bc
  by_cases h2 : what = CM.silentW
  · subst h2; rw [if_neg (by decide), if_pos rfl] at hf; injection hf with hf; subst hf; exact node_silent hh la ln lc sign n ba bn bc
  by_cases h3 : what = CM.quitW
  · subst h3; rw [if_neg (by decide), if_neg (by decide), if_pos rfl] at hf; injection hf with hf; subst hf; exact node_quit hh la ln lc sign n ba bn bc
  by_cases h4 : what = CM.againW
  · subst h4; rw [if_neg (by decide), if_neg (by decide), if_neg (by decide), if_pos rfl] at hf; injection hf with hf; subst hf; exact node_again hh la ln lc sign n ba bn bc
  by_cases h5 : what = CM.failedW
  · subst h5; rw [if_neg (by decide), if_neg (by decide), if_neg (by decide), if_neg (by decide), if_pos rfl] at hf; injection hf with hf; subst hf; exact node_err hh la ln lc sign n ba bn bc
  simp [h1, h2, h3, h4, h5] at hf
end Go.Proofs.YtcjcflmnghhbaaaGreat
/-
  The reference's Holds at a phase; of chapter 27. (Printed by gen_rh2.py.)
  Conditions: as each theorem states them.
-/
namespace Go.Proofs.YtcjcflmnghhbaaaGreat
open Go.RowKit
set_option linter.unusedVariables false
set_option linter.unusedSimpArgs false
attribute [local go_sem ↓] load_st
open CM (Sv)
theorem phs_eq {name : List UInt8} {k : Int} (hf : CM.phOf name = some k) (j : Nat) (hj : j < 4) : (phsL.getD j [] == name) = ((j : Int) == k) ∧ 0 ≤ k ∧ k ≤ 3 := by
  unfold CM.phOf at hf
  by_cases h1 : name = CM.beginW
  · subst h1; rw [if_pos rfl] at hf; injection hf with hf; subst hf; rcases (by omega : j = 0 ∨ j = 1 ∨ j = 2 ∨ j = 3) with rfl | rfl | rfl | rfl <;> exact ⟨rfl, by omega, by omega⟩
  by_cases h2 : name = CM.bodyW
  · subst h2; rw [if_neg (by decide), if_pos rfl] at hf; injection hf with hf; subst hf; rcases (by omega : j = 0 ∨ j = 1 ∨ j = 2 ∨ j = 3) with rfl | rfl | rfl | rfl <;> exact ⟨rfl, by omega, by omega⟩
  by_cases h3 : name = CM.endingW
  · subst h3; rw [if_neg (by decide), if_neg (by decide), if_pos rfl] at hf; injection hf with hf; subst hf; rcases (by omega : j = 0 ∨ j = 1 ∨ j = 2 ∨ j = 3) with rfl | rfl | rfl | rfl <;> exact ⟨rfl, by omega, by omega⟩
  by_cases h4 : name = CM.haltedW
  · subst h4; rw [if_neg (by decide), if_neg (by decide), if_neg (by decide), if_pos rfl] at hf; injection hf with hf; subst hf; rcases (by omega : j = 0 ∨ j = 1 ∨ j = 2 ∨ j = 3) with rfl | rfl | rfl | rfl <;> exact ⟨rfl, by omega, by omega⟩
  simp [h1, h2, h3, h4] at hf
set_option maxHeartbeats 4000000 in
set_option maxRecDepth 100000 in
theorem NodeIs.phase {lo hi : Nat} {W : World} (hh : hi ≤ W.heap.size) {name : List UInt8} {k : Int} (hf : CM.phOf name = some k) (la : Option Addr) (ln lc : Nat) (n : Int) (ba : Option Addr) (bn bc : Nat) : NodeIs lo hi (nodeC CM.phaseW la ln lc name n ba bn bc) (fun _ now => now.phase == k) W := by
  refine ⟨hh, ⟨_, _, _, _, _, _, _, _, _, rfl⟩, ?_⟩
  intro W' hkp s1 s2 v1 v2 h1 h2
  obtain ⟨W3, hW3, hN, hS1, hS2, hb⟩ := three W' 81 35 35 (nodeC CM.phaseW la ln lc name n ba bn bc) s1.cells s2.cells
  have n0 : W3.cell? ⟨W'.heap.size, 0, none⟩ = _ := hN.cell 0
  have n1 : W3.cell? ⟨W'.heap.size, 1, none⟩ = _ := hN.cell 1
  have n2 : W3.cell? ⟨W'.heap.size, 2, none⟩ = _ := hN.cell 2
  have n3 : W3.cell? ⟨W'.heap.size, 3, none⟩ = _ := hN.cell 3
  have n4 : W3.cell? ⟨W'.heap.size, 4, none⟩ = _ := hN.cell 4
  unfold nodeC at n0 n1 n2 n3 n4 hW3 ⊢
  simp only [List.getElem?_cons_zero, List.getElem?_cons_succ] at n0 n1 n2 n3 n4
  have l0 := hN.lt
  have l1 := hS1.lt
  have l2 := hS2.lt
  have c0 : W3.cell? ⟨W'.heap.size + 1 + 1, 15, none⟩ = some (.int .i64 s2.phase) := hS2.cell 15
  have e1 : v2.phase = s2.phase := h2.phase
  have hkN := Lib.hid (fun w' (hb : Below W3.heap.size W3 w') => (⟨(hS2.below hb).cell 15, (hN.below hb).cell 2⟩ : w'.cell? ⟨W'.heap.size + 1 + 1, 15, none⟩ = some (.int .i64 s2.phase) ∧ w'.cell? ⟨W'.heap.size, 2, none⟩ = some (strV name)))
  clear hN hS1 hS2 h1 h2 hkp
  obtain ⟨C1, hC1⟩ : ∃ C, s1.cells.toArray = C := ⟨_, rfl⟩
  obtain ⟨C2, hC2⟩ : ∃ C, s2.cells.toArray = C := ⟨_, rfl⟩
  rw [hC1, hC2] at hW3
  rw [hC1, hC2]
  replace hC1 := Lib.hid hC1
  replace hC2 := Lib.hid hC2
  replace hW3 := Lib.hid hW3
  show Calls _ _ _ _ (fun e w' => e = .returned (.bool (v2.phase == k)) ∧ Below W'.heap.size W' w')
  rw [e1]
  clear e1
  generalize s2.phase = ph at *
  have hk3 := (phs_eq hf 0 (by omega)).2
  have hout : ∀ B, (ph == k) = B → Hid ((ph == (k : Int)) = B) := fun B h => Lib.hid h
  rcases (by omega : ph < 0 ∨ 3 < ph ∨ (0 ≤ ph ∧ ph ≤ 3)) with hp | hp | ⟨hp, hp2⟩
  · have hB := hout false (by simp; omega)
    have q1 : decide ((0 : Int) ≤ ph) = false := by rw [decide_eq_false_iff_not]; omega
    clear hp hout hkN hk3 hf
    go_enter Tryz.func27, Tryz.ntmps27
    go_upto_region 1 with fail
    rw [hW3.out]
    go_upto_region 23 with fail
    go_quiet (fail)
    go_wp2_with fail
    go_ret
    exact ⟨by rw [hB.out]; rfl, bl_drewN hb _⟩
  · have hB := hout false (by simp; omega)
    have q1 : decide ((0 : Int) ≤ ph) = true := by rw [decide_eq_true_eq]; omega
    have q2 : decide (ph ≤ (3 : Int)) = false := by rw [decide_eq_false_iff_not]; omega
    clear hp hout hkN hk3 hf
    go_enter Tryz.func27, Tryz.ntmps27
    go_upto_region 1 with fail
    rw [hW3.out]
    go_upto_region 23 with fail
    go_quiet (fail)
    go_wp2_with fail
    go_ret
    exact ⟨by rw [hB.out]; rfl, bl_drewN hb _⟩
  · obtain ⟨j, rfl⟩ := Int.eq_ofNat_of_zero_le hp
    have hj : j < 4 := by omega
    have hq := (phs_eq hf j hj).1
    have hjl : j < phsL.length := hj
    have hgd : phsL[j] = phsL.getD j [] := by simp [List.getD, hjl]
    obtain ⟨x, hx⟩ : ∃ x, phsL.getD j [] = x := ⟨_, rfl⟩
    rw [hx] at hq hgd
    have z0 : (0 : Int) ≤ (j : Int) := by omega
    have z1 : (j : Int) < 4 := by omega
    have z2 : (j : Int) ≤ 3 := by omega
    have hkN2 := Lib.hid (fun w' (hb : Below W3.drew.heap.size W3.drew w') => hkN.out w' (bl_trans (bl_drew (Below.refl _ _)) hb))
    have hxc := Lib.hid (fun w' b (h : StrsAt w' b phsL) => (by have := h.2 j hjl; rwa [hgd] at this : w'.cell? ⟨b, j, none⟩ = some (strV x)))
    clear hout hk3 hf hp hp2 hkN
    replace hx := Lib.hid hx
    replace hgd := Lib.hid hgd
    go_enter Tryz.func27, Tryz.ntmps27
    go_upto_region 1 with fail
    rw [hW3.out]
    go_upto_region 23 with fail
    go_region_with (first | (go_at_call 38; refine (rphs_any _).mono ?_; rintro e w5 ⟨b5, rfl, hS5, hb5, _⟩; obtain ⟨k1, k2⟩ := hkN2.out _ hb5; have ck := hxc.out _ _ hS5; have bk := hS5.1; replace hS5 := Lib.hid hS5))
    all_goals go_wp2_with fail
    all_goals go_ret
    all_goals exact ⟨rfl, bl_trans hb (bl_trans (bl_drew (Below.refl _ _)) hb5)⟩
end Go.Proofs.YtcjcflmnghhbaaaGreat
/-
  The reference's Holds at a number; of chapter 27. (Printed by gen_rh2.py.)
  Conditions: as each theorem states them.
-/
namespace Go.Proofs.YtcjcflmnghhbaaaGreat
open Go.RowKit
set_option linter.unusedVariables false
set_option linter.unusedSimpArgs false
attribute [local go_sem ↓] load_st
open CM (Sv)
theorem num_not {what : List UInt8} {f : Sv → Int} (hf : CM.numOf what = some f) : (what == [111, 114]) = false ∧ (what == [97, 110, 100]) = false ∧ (what == [110, 111, 116]) = false ∧ (what == [115, 117, 98, 115, 116]) = false ∧ (what == [115, 105, 108, 101, 110, 116]) = false ∧ (what == [113, 117, 105, 116]) = false ∧ (what == [97, 103, 97, 105, 110]) = false ∧ (what == [102, 97, 105, 108, 101, 100]) = false ∧ (what == [112, 104, 97, 115, 101]) = false := by
  unfold CM.numOf at hf
  by_cases h1 : what = CM.lineW
  · subst h1; decide
  by_cases h2 : what = CM.pcW
  · subst h2; decide
  by_cases h3 : what = CM.exitW
  · subst h3; decide
  by_cases h4 : what = CM.waitsW
  · subst h4; decide
  simp [h1, h2, h3, h4] at hf
theorem txt_not {what : List UInt8} {f : Sv → List UInt8} (hf : CM.txtOf what = some f) : (what == [111, 114]) = false ∧ (what == [97, 110, 100]) = false ∧ (what == [110, 111, 116]) = false ∧ (what == [115, 117, 98, 115, 116]) = false ∧ (what == [115, 105, 108, 101, 110, 116]) = false ∧ (what == [113, 117, 105, 116]) = false ∧ (what == [97, 103, 97, 105, 110]) = false ∧ (what == [102, 97, 105, 108, 101, 100]) = false ∧ (what == [112, 104, 97, 115, 101]) = false := by
  unfold CM.txtOf at hf
  by_cases h1 : what = CM.patternW
  · subst h1; decide
  by_cases h2 : what = CM.holdW
  · subst h2; decide
  by_cases h3 : what = CM.restW
  · subst h3; decide
  by_cases h4 : what = CM.outW
  · subst h4; decide
  simp [h1, h2, h3, h4] at hf
theorem txt_num {what : List UInt8} {f : Sv → List UInt8} (hf : CM.txtOf what = some f) : CM.numOf what = none := by
  unfold CM.txtOf at hf
  by_cases h1 : what = CM.patternW
  · subst h1; rfl
  by_cases h2 : what = CM.holdW
  · subst h2; rfl
  by_cases h3 : what = CM.restW
  · subst h3; rfl
  by_cases h4 : what = CM.outW
  · subst h4; rfl
  simp [h1, h2, h3, h4] at hf
theorem sign_val (x n : Int) : CM.signOf [61] x n = (x == n) ∧ CM.signOf [33, 61] x n = (x != n) ∧ CM.signOf [60] x n = decide (x < n) ∧ CM.signOf [60, 61] x n = decide (x ≤ n) ∧ CM.signOf [62] x n = decide (n < x) ∧ CM.signOf [62, 61] x n = decide (n ≤ x) := by
  obtain ⟨h1, h2, h3, h4, h5, h6⟩ := (⟨rfl, rfl, rfl, rfl, rfl, rfl⟩ : CM.signOf [61] x n = _ ∧ CM.signOf [33, 61] x n = _ ∧ CM.signOf [60] x n = _ ∧ CM.signOf [60, 61] x n = _ ∧ CM.signOf [62] x n = _ ∧ CM.signOf [62, 61] x n = _)
  unfold CM.signOf
  rcases Int.lt_trichotomy x n with h | h | h
  all_goals
    refine ⟨?_, ?_, ?_, ?_, ?_, ?_⟩
    all_goals
      rw [Bool.eq_iff_iff]
      simp
      try omega
set_option maxHeartbeats 8000000 in
set_option maxRecDepth 100000 in
theorem node_num_chg {lo hi : Nat} {W : World} (hh : hi ≤ W.heap.size) {what : List UInt8} {f : Sv → Int} (hf : CM.numOf what = some f) (la : Option Addr) (ln lc : Nat) (n : Int) (ba : Option Addr) (bn bc : Nat) : NodeIs lo hi (nodeC what la ln lc [99, 104, 97, 110, 103, 101, 100] n ba bn bc) (fun was now => (f was != f now)) W := by
  obtain ⟨a1, a2, a3, a4, a5, a6, a7, a8, a9⟩ := num_not hf
  have hin := in_nums what
  rw [hf] at hin
  refine ⟨hh, ⟨_, _, _, _, _, _, _, _, _, rfl⟩, ?_⟩
  intro W' hkp s1 s2 v1 v2 h1 h2
  obtain ⟨W3, hW3, hN, hS1, hS2, hb⟩ := three W' 81 35 35 (nodeC what la ln lc [99, 104, 97, 110, 103, 101, 100] n ba bn bc) s1.cells s2.cells
  have n0 : W3.cell? ⟨W'.heap.size, 0, none⟩ = _ := hN.cell 0
  have n1 : W3.cell? ⟨W'.heap.size, 1, none⟩ = _ := hN.cell 1
  have n2 : W3.cell? ⟨W'.heap.size, 2, none⟩ = _ := hN.cell 2
  have n3 : W3.cell? ⟨W'.heap.size, 3, none⟩ = _ := hN.cell 3
  have n4 : W3.cell? ⟨W'.heap.size, 4, none⟩ = _ := hN.cell 4
  unfold nodeC at n0 n1 n2 n3 n4 hW3 ⊢
  simp only [List.getElem?_cons_zero, List.getElem?_cons_succ] at n0 n1 n2 n3 n4
  have l0 := hN.lt
  have l1 := hS1.lt
  have l2 := hS2.lt
  have hkN := Lib.hid (fun w' (hb : Below W3.heap.size W3 w') => (⟨(hN.below hb).cell 0, (hN.below hb).cell 3, stLoad_is s1 (hS1.below hb), stLoad_is s2 (hS2.below hb), (hN.below hb).cell 2⟩ : w'.cell? ⟨W'.heap.size, 0, none⟩ = some (strV what) ∧ w'.cell? ⟨W'.heap.size, 3, none⟩ = some (.int .i64 n) ∧ (stLoad ⟨W'.heap.size + 1, 0, none⟩).run Tryz.prog w' = .ok (.agg s1.cells.toArray) w' ∧ (stLoad ⟨W'.heap.size + 1 + 1, 0, none⟩).run Tryz.prog w' = .ok (.agg s2.cells.toArray) w' ∧ w'.cell? ⟨W'.heap.size, 2, none⟩ = some (strV [99, 104, 97, 110, 103, 101, 100])))
  have hcn := Lib.hid (fun w' (hw : Below W3.heap.size W3 w') => rnum_any (h2.below (bl_trans hb hw)) hf)
  have hcw := Lib.hid (fun w' (hw : Below W3.heap.size W3 w') => rnum_any (h1.below (bl_trans hb hw)) hf)
  have hi1 := Lib.hid (fun w' b (hS : StrsAt w' b numsL) => (by have := in_at what numsL 4 rfl w' b 4 hS (by omega); rw [hin] at this; exact this : Calls Tryz.prog 39 #[strV what, .slice (some ⟨b, 0, none⟩) 4 4] w' fun e w2 => e = .returned (.bool true) ∧ w' = w2))
  clear hN hS1 hS2 h1 h2 hkp hin
  obtain ⟨C1, hC1⟩ : ∃ C, s1.cells.toArray = C := ⟨_, rfl⟩
  obtain ⟨C2, hC2⟩ : ∃ C, s2.cells.toArray = C := ⟨_, rfl⟩
  rw [hC1] at hW3 hkN hcw
  rw [hC2] at hW3 hkN hcn
  rw [hC1, hC2]
  replace hC1 := Lib.hid hC1
  replace hC2 := Lib.hid hC2
  replace hW3 := Lib.hid hW3
  show Calls _ _ _ _ (fun e w' => e = .returned (.bool ((f v1 != f v2))) ∧ Below W'.heap.size W' w')
  generalize hx2 : f v2 = x2 at *
  generalize hx1 : f v1 = x1 at *
  replace hx1 := Lib.hid hx1
  replace hx2 := Lib.hid hx2
  have sB : Below W3.heap.size W3 W3.drew := bl_drew (Below.refl _ _)
  have sI := And.intro sB (hkN.out _ sB).1
  clear hf
  go_enter Tryz.func27, Tryz.ntmps27
  go_upto_region 1 with fail
  rw [hW3.out]
  go_upto_region 24 with fail
  go_region_held3 (fun w' => Below W3.heap.size W3 w' ∧ w'.cell? ⟨W'.heap.size, 0, none⟩ = some (strV what)) (first | with_reducible exact sI | with_reducible exact hI)
    (first
      | (go_at_call 40; refine (rnums_any _).mono ?_; rintro e w5 ⟨b5, rfl, hS5, hb5, _⟩; have hb5' := bl_trans sB hb5; have hI := And.intro hb5' (hkN.out _ hb5').1; replace hS5 := Lib.hid hS5)
      | (go_at_call 39; (with_reducible refine (hi1.out _ _ hS5.out).mono ?_); rintro e w6 ⟨rfl, rfl⟩))
  go_upto_region 25 with fail
  obtain ⟨w6, hw6⟩ : ∃ w6, w6 = w5 := ⟨_, rfl⟩
  subst hw6
  have hb6 := hI.1
  clear sI sB hI hb5 hb5' hS5
  have sB : Below W3.heap.size W3 w6.drew := bl_drew hb6
  have sI := And.intro sB (⟨(hkN.out _ sB).1, (hkN.out _ sB).2.1, (hkN.out _ sB).2.2.2.1⟩ : _ ∧ _ ∧ _)
  go_region_held3 (fun w' => Below W3.heap.size W3 w' ∧ w'.cell? ⟨W'.heap.size, 0, none⟩ = some (strV what) ∧ w'.cell? ⟨W'.heap.size, 3, none⟩ = some (.int .i64 n) ∧ (stLoad ⟨W'.heap.size + 1 + 1, 0, none⟩).run Tryz.prog w' = .ok (.agg C2) w') (first | with_reducible exact sI | with_reducible exact hI)
    (first | (go_at_call 41; (with_reducible refine (hcn.out _ sB).mono ?_); rintro e w7 ⟨rfl, hb7⟩; have hb7' := bl_trans sB hb7; have hI := And.intro hb7' (⟨(hkN.out _ hb7').1, (hkN.out _ hb7').2.1, (hkN.out _ hb7').2.2.2.1⟩ : _ ∧ _ ∧ _)))
  obtain ⟨m1, m2, m3, m4, m5⟩ := hkN.out _ hI.1
  have hb7 := hI.1
  clear sI sB hI hkN hcn
  go_wp2_with (go_at_call 41; (with_reducible refine (hcw.out _ hb7).mono ?_); rintro e w8 ⟨rfl, hb8⟩)
  go_ret
  exact ⟨rfl, bl_trans hb (bl_trans hb7 hb8)⟩
set_option maxHeartbeats 8000000 in
set_option maxRecDepth 100000 in
theorem node_num_eq {lo hi : Nat} {W : World} (hh : hi ≤ W.heap.size) {what : List UInt8} {f : Sv → Int} (hf : CM.numOf what = some f) (la : Option Addr) (ln lc : Nat) (n : Int) (ba : Option Addr) (bn bc : Nat) : NodeIs lo hi (nodeC what la ln lc [61] n ba bn bc) (fun was now => CM.signOf [61] (f now) n) W := by
  obtain ⟨a1, a2, a3, a4, a5, a6, a7, a8, a9⟩ := num_not hf
  have hin := in_nums what
  rw [hf] at hin
  refine ⟨hh, ⟨_, _, _, _, _, _, _, _, _, rfl⟩, ?_⟩
  intro W' hkp s1 s2 v1 v2 h1 h2
  obtain ⟨W3, hW3, hN, hS1, hS2, hb⟩ := three W' 81 35 35 (nodeC what la ln lc [61] n ba bn bc) s1.cells s2.cells
  have n0 : W3.cell? ⟨W'.heap.size, 0, none⟩ = _ := hN.cell 0
  have n1 : W3.cell? ⟨W'.heap.size, 1, none⟩ = _ := hN.cell 1
  have n2 : W3.cell? ⟨W'.heap.size, 2, none⟩ = _ := hN.cell 2
  have n3 : W3.cell? ⟨W'.heap.size, 3, none⟩ = _ := hN.cell 3
  have n4 : W3.cell? ⟨W'.heap.size, 4, none⟩ = _ := hN.cell 4
  unfold nodeC at n0 n1 n2 n3 n4 hW3 ⊢
  simp only [List.getElem?_cons_zero, List.getElem?_cons_succ] at n0 n1 n2 n3 n4
  have l0 := hN.lt
  have l1 := hS1.lt
  have l2 := hS2.lt
  have hkN := Lib.hid (fun w' (hb : Below W3.heap.size W3 w') => (⟨(hN.below hb).cell 0, (hN.below hb).cell 3, stLoad_is s1 (hS1.below hb), stLoad_is s2 (hS2.below hb), (hN.below hb).cell 2⟩ : w'.cell? ⟨W'.heap.size, 0, none⟩ = some (strV what) ∧ w'.cell? ⟨W'.heap.size, 3, none⟩ = some (.int .i64 n) ∧ (stLoad ⟨W'.heap.size + 1, 0, none⟩).run Tryz.prog w' = .ok (.agg s1.cells.toArray) w' ∧ (stLoad ⟨W'.heap.size + 1 + 1, 0, none⟩).run Tryz.prog w' = .ok (.agg s2.cells.toArray) w' ∧ w'.cell? ⟨W'.heap.size, 2, none⟩ = some (strV [61])))
  have hcn := Lib.hid (fun w' (hw : Below W3.heap.size W3 w') => rnum_any (h2.below (bl_trans hb hw)) hf)
  have hcw := Lib.hid (fun w' (hw : Below W3.heap.size W3 w') => rnum_any (h1.below (bl_trans hb hw)) hf)
  have hi1 := Lib.hid (fun w' b (hS : StrsAt w' b numsL) => (by have := in_at what numsL 4 rfl w' b 4 hS (by omega); rw [hin] at this; exact this : Calls Tryz.prog 39 #[strV what, .slice (some ⟨b, 0, none⟩) 4 4] w' fun e w2 => e = .returned (.bool true) ∧ w' = w2))
  clear hN hS1 hS2 h1 h2 hkp hin
  obtain ⟨C1, hC1⟩ : ∃ C, s1.cells.toArray = C := ⟨_, rfl⟩
  obtain ⟨C2, hC2⟩ : ∃ C, s2.cells.toArray = C := ⟨_, rfl⟩
  rw [hC1] at hW3 hkN hcw
  rw [hC2] at hW3 hkN hcn
  rw [hC1, hC2]
  replace hC1 := Lib.hid hC1
  replace hC2 := Lib.hid hC2
  replace hW3 := Lib.hid hW3
  show Calls _ _ _ _ (fun e w' => e = .returned (.bool (CM.signOf [61] (f v2) n)) ∧ Below W'.heap.size W' w')
  generalize hx2 : f v2 = x2 at *
  generalize hx1 : f v1 = x1 at *
  replace hx1 := Lib.hid hx1
  replace hx2 := Lib.hid hx2
  have sB : Below W3.heap.size W3 W3.drew := bl_drew (Below.refl _ _)
  have sI := And.intro sB (hkN.out _ sB).1
  clear hf
  go_enter Tryz.func27, Tryz.ntmps27
  go_upto_region 1 with fail
  rw [hW3.out]
  go_upto_region 24 with fail
  go_region_held3 (fun w' => Below W3.heap.size W3 w' ∧ w'.cell? ⟨W'.heap.size, 0, none⟩ = some (strV what)) (first | with_reducible exact sI | with_reducible exact hI)
    (first
      | (go_at_call 40; refine (rnums_any _).mono ?_; rintro e w5 ⟨b5, rfl, hS5, hb5, _⟩; have hb5' := bl_trans sB hb5; have hI := And.intro hb5' (hkN.out _ hb5').1; replace hS5 := Lib.hid hS5)
      | (go_at_call 39; (with_reducible refine (hi1.out _ _ hS5.out).mono ?_); rintro e w6 ⟨rfl, rfl⟩))
  go_upto_region 25 with fail
  obtain ⟨w6, hw6⟩ : ∃ w6, w6 = w5 := ⟨_, rfl⟩
  subst hw6
  have hb6 := hI.1
  clear sI sB hI hb5 hb5' hS5
  have sB : Below W3.heap.size W3 w6.drew := bl_drew hb6
  have sI := And.intro sB (⟨(hkN.out _ sB).1, (hkN.out _ sB).2.1, (hkN.out _ sB).2.2.2.1⟩ : _ ∧ _ ∧ _)
  go_region_held3 (fun w' => Below W3.heap.size W3 w' ∧ w'.cell? ⟨W'.heap.size, 0, none⟩ = some (strV what) ∧ w'.cell? ⟨W'.heap.size, 3, none⟩ = some (.int .i64 n) ∧ (stLoad ⟨W'.heap.size + 1 + 1, 0, none⟩).run Tryz.prog w' = .ok (.agg C2) w') (first | with_reducible exact sI | with_reducible exact hI)
    (first | (go_at_call 41; (with_reducible refine (hcn.out _ sB).mono ?_); rintro e w7 ⟨rfl, hb7⟩; have hb7' := bl_trans sB hb7; have hI := And.intro hb7' (⟨(hkN.out _ hb7').1, (hkN.out _ hb7').2.1, (hkN.out _ hb7').2.2.2.1⟩ : _ ∧ _ ∧ _)))
  obtain ⟨m1, m2, m3, m4, m5⟩ := hkN.out _ hI.1
  have hb7 := hI.1
  clear sI sB hI hkN hcn
  have hsv := Lib.hid ((sign_val x2 n).1)
  go_wp2_with fail
  go_ret
  exact ⟨by rw [hsv.out]; rfl, bl_trans hb hb7⟩
set_option maxHeartbeats 8000000 in
set_option maxRecDepth 100000 in
theorem node_num_ne {lo hi : Nat} {W : World} (hh : hi ≤ W.heap.size) {what : List UInt8} {f : Sv → Int} (hf : CM.numOf what = some f) (la : Option Addr) (ln lc : Nat) (n : Int) (ba : Option Addr) (bn bc : Nat) : NodeIs lo hi (nodeC what la ln lc [33, 61] n ba bn bc) (fun was now => CM.signOf [33, 61] (f now) n) W := by
  obtain ⟨a1, a2, a3, a4, a5, a6, a7, a8, a9⟩ := num_not hf
  have hin := in_nums what
  rw [hf] at hin
  refine ⟨hh, ⟨_, _, _, _, _, _, _, _, _, rfl⟩, ?_⟩
  intro W' hkp s1 s2 v1 v2 h1 h2
  obtain ⟨W3, hW3, hN, hS1, hS2, hb⟩ := three W' 81 35 35 (nodeC what la ln lc [33, 61] n ba bn bc) s1.cells s2.cells
  have n0 : W3.cell? ⟨W'.heap.size, 0, none⟩ = _ := hN.cell 0
  have n1 : W3.cell? ⟨W'.heap.size, 1, none⟩ = _ := hN.cell 1
  have n2 : W3.cell? ⟨W'.heap.size, 2, none⟩ = _ := hN.cell 2
  have n3 : W3.cell? ⟨W'.heap.size, 3, none⟩ = _ := hN.cell 3
  have n4 : W3.cell? ⟨W'.heap.size, 4, none⟩ = _ := hN.cell 4
  unfold nodeC at n0 n1 n2 n3 n4 hW3 ⊢
  simp only [List.getElem?_cons_zero, List.getElem?_cons_succ] at n0 n1 n2 n3 n4
  have l0 := hN.lt
  have l1 := hS1.lt
  have l2 := hS2.lt
  have hkN := Lib.hid (fun w' (hb : Below W3.heap.size W3 w') => (⟨(hN.below hb).cell 0, (hN.below hb).cell 3, stLoad_is s1 (hS1.below hb), stLoad_is s2 (hS2.below hb), (hN.below hb).cell 2⟩ : w'.cell? ⟨W'.heap.size, 0, none⟩ = some (strV what) ∧ w'.cell? ⟨W'.heap.size, 3, none⟩ = some (.int .i64 n) ∧ (stLoad ⟨W'.heap.size + 1, 0, none⟩).run Tryz.prog w' = .ok (.agg s1.cells.toArray) w' ∧ (stLoad ⟨W'.heap.size + 1 + 1, 0, none⟩).run Tryz.prog w' = .ok (.agg s2.cells.toArray) w' ∧ w'.cell? ⟨W'.heap.size, 2, none⟩ = some (strV [33, 61])))
  have hcn := Lib.hid (fun w' (hw : Below W3.heap.size W3 w') => rnum_any (h2.below (bl_trans hb hw)) hf)
  have hcw := Lib.hid (fun w' (hw : Below W3.heap.size W3 w') => rnum_any (h1.below (bl_trans hb hw)) hf)
  have hi1 := Lib.hid (fun w' b (hS : StrsAt w' b numsL) => (by have := in_at what numsL 4 rfl w' b 4 hS (by omega); rw [hin] at this; exact this : Calls Tryz.prog 39 #[strV what, .slice (some ⟨b, 0, none⟩) 4 4] w' fun e w2 => e = .returned (.bool true) ∧ w' = w2))
  clear hN hS1 hS2 h1 h2 hkp hin
  obtain ⟨C1, hC1⟩ : ∃ C, s1.cells.toArray = C := ⟨_, rfl⟩
  obtain ⟨C2, hC2⟩ : ∃ C, s2.cells.toArray = C := ⟨_, rfl⟩
  rw [hC1] at hW3 hkN hcw
  rw [hC2] at hW3 hkN hcn
  rw [hC1, hC2]
  replace hC1 := Lib.hid hC1
  replace hC2 := Lib.hid hC2
  replace hW3 := Lib.hid hW3
  show Calls _ _ _ _ (fun e w' => e = .returned (.bool (CM.signOf [33, 61] (f v2) n)) ∧ Below W'.heap.size W' w')
  generalize hx2 : f v2 = x2 at *
  generalize hx1 : f v1 = x1 at *
  replace hx1 := Lib.hid hx1
  replace hx2 := Lib.hid hx2
  have sB : Below W3.heap.size W3 W3.drew := bl_drew (Below.refl _ _)
  have sI := And.intro sB (hkN.out _ sB).1
  clear hf
  go_enter Tryz.func27, Tryz.ntmps27
  go_upto_region 1 with fail
  rw [hW3.out]
  go_upto_region 24 with fail
  go_region_held3 (fun w' => Below W3.heap.size W3 w' ∧ w'.cell? ⟨W'.heap.size, 0, none⟩ = some (strV what)) (first | with_reducible exact sI | with_reducible exact hI)
    (first
      | (go_at_call 40; refine (rnums_any _).mono ?_; rintro e w5 ⟨b5, rfl, hS5, hb5, _⟩; have hb5' := bl_trans sB hb5; have hI := And.intro hb5' (hkN.out _ hb5').1; replace hS5 := Lib.hid hS5)
      | (go_at_call 39; (with_reducible refine (hi1.out _ _ hS5.out).mono ?_); rintro e w6 ⟨rfl, rfl⟩))
  go_upto_region 25 with fail
  obtain ⟨w6, hw6⟩ : ∃ w6, w6 = w5 := ⟨_, rfl⟩
  subst hw6
  have hb6 := hI.1
  clear sI sB hI hb5 hb5' hS5
  have sB : Below W3.heap.size W3 w6.drew := bl_drew hb6
  have sI := And.intro sB (⟨(hkN.out _ sB).1, (hkN.out _ sB).2.1, (hkN.out _ sB).2.2.2.1⟩ : _ ∧ _ ∧ _)
  go_region_held3 (fun w' => Below W3.heap.size W3 w' ∧ w'.cell? ⟨W'.heap.size, 0, none⟩ = some (strV what) ∧ w'.cell? ⟨W'.heap.size, 3, none⟩ = some (.int .i64 n) ∧ (stLoad ⟨W'.heap.size + 1 + 1, 0, none⟩).run Tryz.prog w' = .ok (.agg C2) w') (first | with_reducible exact sI | with_reducible exact hI)
    (first | (go_at_call 41; (with_reducible refine (hcn.out _ sB).mono ?_); rintro e w7 ⟨rfl, hb7⟩; have hb7' := bl_trans sB hb7; have hI := And.intro hb7' (⟨(hkN.out _ hb7').1, (hkN.out _ hb7').2.1, (hkN.out _ hb7').2.2.2.1⟩ : _ ∧ _ ∧ _)))
  obtain ⟨m1, m2, m3, m4, m5⟩ := hkN.out _ hI.1
  have hb7 := hI.1
  clear sI sB hI hkN hcn
  have hsv := Lib.hid ((sign_val x2 n).2.1)
  go_wp2_with fail
  go_ret
  exact ⟨by rw [hsv.out]; rfl, bl_trans hb hb7⟩
set_option maxHeartbeats 8000000 in
set_option maxRecDepth 100000 in
theorem node_num_lt {lo hi : Nat} {W : World} (hh : hi ≤ W.heap.size) {what : List UInt8} {f : Sv → Int} (hf : CM.numOf what = some f) (la : Option Addr) (ln lc : Nat) (n : Int) (ba : Option Addr) (bn bc : Nat) : NodeIs lo hi (nodeC what la ln lc [60] n ba bn bc) (fun was now => CM.signOf [60] (f now) n) W := by
  obtain ⟨a1, a2, a3, a4, a5, a6, a7, a8, a9⟩ := num_not hf
  have hin := in_nums what
  rw [hf] at hin
  refine ⟨hh, ⟨_, _, _, _, _, _, _, _, _, rfl⟩, ?_⟩
  intro W' hkp s1 s2 v1 v2 h1 h2
  obtain ⟨W3, hW3, hN, hS1, hS2, hb⟩ := three W' 81 35 35 (nodeC what la ln lc [60] n ba bn bc) s1.cells s2.cells
  have n0 : W3.cell? ⟨W'.heap.size, 0, none⟩ = _ := hN.cell 0
  have n1 : W3.cell? ⟨W'.heap.size, 1, none⟩ = _ := hN.cell 1
  have n2 : W3.cell? ⟨W'.heap.size, 2, none⟩ = _ := hN.cell 2
  have n3 : W3.cell? ⟨W'.heap.size, 3, none⟩ = _ := hN.cell 3
  have n4 : W3.cell? ⟨W'.heap.size, 4, none⟩ = _ := hN.cell 4
  unfold nodeC at n0 n1 n2 n3 n4 hW3 ⊢
  simp only [List.getElem?_cons_zero, List.getElem?_cons_succ] at n0 n1 n2 n3 n4
  have l0 := hN.lt
  have l1 := hS1.lt
  have l2 := hS2.lt
  have hkN := Lib.hid (fun w' (hb : Below W3.heap.size W3 w') => (⟨(hN.below hb).cell 0, (hN.below hb).cell 3, stLoad_is s1 (hS1.below hb), stLoad_is s2 (hS2.below hb), (hN.below hb).cell 2⟩ : w'.cell? ⟨W'.heap.size, 0, none⟩ = some (strV what) ∧ w'.cell? ⟨W'.heap.size, 3, none⟩ = some (.int .i64 n) ∧ (stLoad ⟨W'.heap.size + 1, 0, none⟩).run Tryz.prog w' = .ok (.agg s1.cells.toArray) w' ∧ (stLoad ⟨W'.heap.size + 1 + 1, 0, none⟩).run Tryz.prog w' = .ok (.agg s2.cells.toArray) w' ∧ w'.cell? ⟨W'.heap.size, 2, none⟩ = some (strV [60])))
  have hcn := Lib.hid (fun w' (hw : Below W3.heap.size W3 w') => rnum_any (h2.below (bl_trans hb hw)) hf)
  have hcw := Lib.hid (fun w' (hw : Below W3.heap.size W3 w') => rnum_any (h1.below (bl_trans hb hw)) hf)
  have hi1 := Lib.hid (fun w' b (hS : StrsAt w' b numsL) => (by have := in_at what numsL 4 rfl w' b 4 hS (by omega); rw [hin] at this; exact this : Calls Tryz.prog 39 #[strV what, .slice (some ⟨b, 0, none⟩) 4 4] w' fun e w2 => e = .returned (.bool true) ∧ w' = w2))
  clear hN hS1 hS2 h1 h2 hkp hin
  obtain ⟨C1, hC1⟩ : ∃ C, s1.cells.toArray = C := ⟨_, rfl⟩
  obtain ⟨C2, hC2⟩ : ∃ C, s2.cells.toArray = C := ⟨_, rfl⟩
  rw [hC1] at hW3 hkN hcw
  rw [hC2] at hW3 hkN hcn
  rw [hC1, hC2]
  replace hC1 := Lib.hid hC1
  replace hC2 := Lib.hid hC2
  replace hW3 := Lib.hid hW3
  show Calls _ _ _ _ (fun e w' => e = .returned (.bool (CM.signOf [60] (f v2) n)) ∧ Below W'.heap.size W' w')
  generalize hx2 : f v2 = x2 at *
  generalize hx1 : f v1 = x1 at *
  replace hx1 := Lib.hid hx1
  replace hx2 := Lib.hid hx2
  have sB : Below W3.heap.size W3 W3.drew := bl_drew (Below.refl _ _)
  have sI := And.intro sB (hkN.out _ sB).1
  clear hf
  go_enter Tryz.func27, Tryz.ntmps27
  go_upto_region 1 with fail
  rw [hW3.out]
  go_upto_region 24 with fail
  go_region_held3 (fun w' => Below W3.heap.size W3 w' ∧ w'.cell? ⟨W'.heap.size, 0, none⟩ = some (strV what)) (first | with_reducible exact sI | with_reducible exact hI)
    (first
      | (go_at_call 40; refine (rnums_any _).mono ?_; rintro e w5 ⟨b5, rfl, hS5, hb5, _⟩; have hb5' := bl_trans sB hb5; have hI := And.intro hb5' (hkN.out _ hb5').1; replace hS5 := Lib.hid hS5)
      | (go_at_call 39; (with_reducible refine (hi1.out _ _ hS5.out).mono ?_); rintro e w6 ⟨rfl, rfl⟩))
  go_upto_region 25 with fail
  obtain ⟨w6, hw6⟩ : ∃ w6, w6 = w5 := ⟨_, rfl⟩
  subst hw6
  have hb6 := hI.1
  clear sI sB hI hb5 hb5' hS5
  have sB : Below W3.heap.size W3 w6.drew := bl_drew hb6
  have sI := And.intro sB (⟨(hkN.out _ sB).1, (hkN.out _ sB).2.1, (hkN.out _ sB).2.2.2.1⟩ : _ ∧ _ ∧ _)
  go_region_held3 (fun w' => Below W3.heap.size W3 w' ∧ w'.cell? ⟨W'.heap.size, 0, none⟩ = some (strV what) ∧ w'.cell? ⟨W'.heap.size, 3, none⟩ = some (.int .i64 n) ∧ (stLoad ⟨W'.heap.size + 1 + 1, 0, none⟩).run Tryz.prog w' = .ok (.agg C2) w') (first | with_reducible exact sI | with_reducible exact hI)
    (first | (go_at_call 41; (with_reducible refine (hcn.out _ sB).mono ?_); rintro e w7 ⟨rfl, hb7⟩; have hb7' := bl_trans sB hb7; have hI := And.intro hb7' (⟨(hkN.out _ hb7').1, (hkN.out _ hb7').2.1, (hkN.out _ hb7').2.2.2.1⟩ : _ ∧ _ ∧ _)))
  obtain ⟨m1, m2, m3, m4, m5⟩ := hkN.out _ hI.1
  have hb7 := hI.1
  clear sI sB hI hkN hcn
  have hsv := Lib.hid ((sign_val x2 n).2.2.1)
  go_wp2_with fail
  go_ret
  exact ⟨by rw [hsv.out]; rfl, bl_trans hb hb7⟩
set_option maxHeartbeats 8000000 in
set_option maxRecDepth 100000 in
theorem node_num_le {lo hi : Nat} {W : World} (hh : hi ≤ W.heap.size) {what : List UInt8} {f : Sv → Int} (hf : CM.numOf what = some f) (la : Option Addr) (ln lc : Nat) (n : Int) (ba : Option Addr) (bn bc : Nat) : NodeIs lo hi (nodeC what la ln lc [60, 61] n ba bn bc) (fun was now => CM.signOf [60, 61] (f now) n) W := by
  obtain ⟨a1, a2, a3, a4, a5, a6, a7, a8, a9⟩ := num_not hf
  have hin := in_nums what
  rw [hf] at hin
  refine ⟨hh, ⟨_, _, _, _, _, _, _, _, _, rfl⟩, ?_⟩
  intro W' hkp s1 s2 v1 v2 h1 h2
  obtain ⟨W3, hW3, hN, hS1, hS2, hb⟩ := three W' 81 35 35 (nodeC what la ln lc [60, 61] n ba bn bc) s1.cells s2.cells
  have n0 : W3.cell? ⟨W'.heap.size, 0, none⟩ = _ := hN.cell 0
  have n1 : W3.cell? ⟨W'.heap.size, 1, none⟩ = _ := hN.cell 1
  have n2 : W3.cell? ⟨W'.heap.size, 2, none⟩ = _ := hN.cell 2
  have n3 : W3.cell? ⟨W'.heap.size, 3, none⟩ = _ := hN.cell 3
  have n4 : W3.cell? ⟨W'.heap.size, 4, none⟩ = _ := hN.cell 4
  unfold nodeC at n0 n1 n2 n3 n4 hW3 ⊢
  simp only [List.getElem?_cons_zero, List.getElem?_cons_succ] at n0 n1 n2 n3 n4
  have l0 := hN.lt
  have l1 := hS1.lt
  have l2 := hS2.lt
  have hkN := Lib.hid (fun w' (hb : Below W3.heap.size W3 w') => (⟨(hN.below hb).cell 0, (hN.below hb).cell 3, stLoad_is s1 (hS1.below hb), stLoad_is s2 (hS2.below hb), (hN.below hb).cell 2⟩ : w'.cell? ⟨W'.heap.size, 0, none⟩ = some (strV what) ∧ w'.cell? ⟨W'.heap.size, 3, none⟩ = some (.int .i64 n) ∧ (stLoad ⟨W'.heap.size + 1, 0, none⟩).run Tryz.prog w' = .ok (.agg s1.cells.toArray) w' ∧ (stLoad ⟨W'.heap.size + 1 + 1, 0, none⟩).run Tryz.prog w' = .ok (.agg s2.cells.toArray) w' ∧ w'.cell? ⟨W'.heap.size, 2, none⟩ = some (strV [60, 61])))
  have hcn := Lib.hid (fun w' (hw : Below W3.heap.size W3 w') => rnum_any (h2.below (bl_trans hb hw)) hf)
  have hcw := Lib.hid (fun w' (hw : Below W3.heap.size W3 w') => rnum_any (h1.below (bl_trans hb hw)) hf)
  have hi1 := Lib.hid (fun w' b (hS : StrsAt w' b numsL) => (by have := in_at what numsL 4 rfl w' b 4 hS (by omega); rw [hin] at this; exact this : Calls Tryz.prog 39 #[strV what, .slice (some ⟨b, 0, none⟩) 4 4] w' fun e w2 => e = .returned (.bool true) ∧ w' = w2))
  clear hN hS1 hS2 h1 h2 hkp hin
  obtain ⟨C1, hC1⟩ : ∃ C, s1.cells.toArray = C := ⟨_, rfl⟩
  obtain ⟨C2, hC2⟩ : ∃ C, s2.cells.toArray = C := ⟨_, rfl⟩
  rw [hC1] at hW3 hkN hcw
  rw [hC2] at hW3 hkN hcn
  rw [hC1, hC2]
  replace hC1 := Lib.hid hC1
  replace hC2 := Lib.hid hC2
  replace hW3 := Lib.hid hW3
  show Calls _ _ _ _ (fun e w' => e = .returned (.bool (CM.signOf [60, 61] (f v2) n)) ∧ Below W'.heap.size W' w')
  generalize hx2 : f v2 = x2 at *
  generalize hx1 : f v1 = x1 at *
  replace hx1 := Lib.hid hx1
  replace hx2 := Lib.hid hx2
  have sB : Below W3.heap.size W3 W3.drew := bl_drew (Below.refl _ _)
  have sI := And.intro sB (hkN.out _ sB).1
  clear hf
  go_enter Tryz.func27, Tryz.ntmps27
  go_upto_region 1 with fail
  rw [hW3.out]
  go_upto_region 24 with fail
  go_region_held3 (fun w' => Below W3.heap.size W3 w' ∧ w'.cell? ⟨W'.heap.size, 0, none⟩ = some (strV what)) (first | with_reducible exact sI | with_reducible exact hI)
    (first
      | (go_at_call 40; refine (rnums_any _).mono ?_; rintro e w5 ⟨b5, rfl, hS5, hb5, _⟩; have hb5' := bl_trans sB hb5; have hI := And.intro hb5' (hkN.out _ hb5').1; replace hS5 := Lib.hid hS5)
      | (go_at_call 39; (with_reducible refine (hi1.out _ _ hS5.out).mono ?_); rintro e w6 ⟨rfl, rfl⟩))
  go_upto_region 25 with fail
  obtain ⟨w6, hw6⟩ : ∃ w6, w6 = w5 := ⟨_, rfl⟩
  subst hw6
  have hb6 := hI.1
  clear sI sB hI hb5 hb5' hS5
  have sB : Below W3.heap.size W3 w6.drew := bl_drew hb6
  have sI := And.intro sB (⟨(hkN.out _ sB).1, (hkN.out _ sB).2.1, (hkN.out _ sB).2.2.2.1⟩ : _ ∧ _ ∧ _)
  go_region_held3 (fun w' => Below W3.heap.size W3 w' ∧ w'.cell? ⟨W'.heap.size, 0, none⟩ = some (strV what) ∧ w'.cell? ⟨W'.heap.size, 3, none⟩ = some (.int .i64 n) ∧ (stLoad ⟨W'.heap.size + 1 + 1, 0, none⟩).run Tryz.prog w' = .ok (.agg C2) w') (first | with_reducible exact sI | with_reducible exact hI)
    (first | (go_at_call 41; (with_reducible refine (hcn.out _ sB).mono ?_); rintro e w7 ⟨rfl, hb7⟩; have hb7' := bl_trans sB hb7; have hI := And.intro hb7' (⟨(hkN.out _ hb7').1, (hkN.out _ hb7').2.1, (hkN.out _ hb7').2.2.2.1⟩ : _ ∧ _ ∧ _)))
  obtain ⟨m1, m2, m3, m4, m5⟩ := hkN.out _ hI.1
  have hb7 := hI.1
  clear sI sB hI hkN hcn
  have hsv := Lib.hid ((sign_val x2 n).2.2.2.1)
  go_wp2_with fail
  go_ret
  exact ⟨by rw [hsv.out]; rfl, bl_trans hb hb7⟩
set_option maxHeartbeats 8000000 in
set_option maxRecDepth 100000 in
theorem node_num_gt {lo hi : Nat} {W : World} (hh : hi ≤ W.heap.size) {what : List UInt8} {f : Sv → Int} (hf : CM.numOf what = some f) (la : Option Addr) (ln lc : Nat) (n : Int) (ba : Option Addr) (bn bc : Nat) : NodeIs lo hi (nodeC what la ln lc [62] n ba bn bc) (fun was now => CM.signOf [62] (f now) n) W := by
  obtain ⟨a1, a2, a3, a4, a5, a6, a7, a8, a9⟩ := num_not hf
  have hin := in_nums what
  rw [hf] at hin
  refine ⟨hh, ⟨_, _, _, _, _, _, _, _, _, rfl⟩, ?_⟩
  intro W' hkp s1 s2 v1 v2 h1 h2
  obtain ⟨W3, hW3, hN, hS1, hS2, hb⟩ := three W' 81 35 35 (nodeC what la ln lc [62] n ba bn bc) s1.cells s2.cells
  have n0 : W3.cell? ⟨W'.heap.size, 0, none⟩ = _ := hN.cell 0
  have n1 : W3.cell? ⟨W'.heap.size, 1, none⟩ = _ := hN.cell 1
  have n2 : W3.cell? ⟨W'.heap.size, 2, none⟩ = _ := hN.cell 2
  have n3 : W3.cell? ⟨W'.heap.size, 3, none⟩ = _ := hN.cell 3
  have n4 : W3.cell? ⟨W'.heap.size, 4, none⟩ = _ := hN.cell 4
  unfold nodeC at n0 n1 n2 n3 n4 hW3 ⊢
  simp only [List.getElem?_cons_zero, List.getElem?_cons_succ] at n0 n1 n2 n3 n4
  have l0 := hN.lt
  have l1 := hS1.lt
  have l2 := hS2.lt
  have hkN := Lib.hid (fun w' (hb : Below W3.heap.size W3 w') => (⟨(hN.below hb).cell 0, (hN.below hb).cell 3, stLoad_is s1 (hS1.below hb), stLoad_is s2 (hS2.below hb), (hN.below hb).cell 2⟩ : w'.cell? ⟨W'.heap.size, 0, none⟩ = some (strV what) ∧ w'.cell? ⟨W'.heap.size, 3, none⟩ = some (.int .i64 n) ∧ (stLoad ⟨W'.heap.size + 1, 0, none⟩).run Tryz.prog w' = .ok (.agg s1.cells.toArray) w' ∧ (stLoad ⟨W'.heap.size + 1 + 1, 0, none⟩).run Tryz.prog w' = .ok (.agg s2.cells.toArray) w' ∧ w'.cell? ⟨W'.heap.size, 2, none⟩ = some (strV [62])))
  have hcn := Lib.hid (fun w' (hw : Below W3.heap.size W3 w') => rnum_any (h2.below (bl_trans hb hw)) hf)
  have hcw := Lib.hid (fun w' (hw : Below W3.heap.size W3 w') => rnum_any (h1.below (bl_trans hb hw)) hf)
  have hi1 := Lib.hid (fun w' b (hS : StrsAt w' b numsL) => (by have := in_at what numsL 4 rfl w' b 4 hS (by omega); rw [hin] at this; exact this : Calls Tryz.prog 39 #[strV what, .slice (some ⟨b, 0, none⟩) 4 4] w' fun e w2 => e = .returned (.bool true) ∧ w' = w2))
  clear hN hS1 hS2 h1 h2 hkp hin
  obtain ⟨C1, hC1⟩ : ∃ C, s1.cells.toArray = C := ⟨_, rfl⟩
  obtain ⟨C2, hC2⟩ : ∃ C, s2.cells.toArray = C := ⟨_, rfl⟩
  rw [hC1] at hW3 hkN hcw
  rw [hC2] at hW3 hkN hcn
  rw [hC1, hC2]
  replace hC1 := Lib.hid hC1
  replace hC2 := Lib.hid hC2
  replace hW3 := Lib.hid hW3
  show Calls _ _ _ _ (fun e w' => e = .returned (.bool (CM.signOf [62] (f v2) n)) ∧ Below W'.heap.size W' w')
  generalize hx2 : f v2 = x2 at *
  generalize hx1 : f v1 = x1 at *
  replace hx1 := Lib.hid hx1
  replace hx2 := Lib.hid hx2
  have sB : Below W3.heap.size W3 W3.drew := bl_drew (Below.refl _ _)
  have sI := And.intro sB (hkN.out _ sB).1
  clear hf
  go_enter Tryz.func27, Tryz.ntmps27
  go_upto_region 1 with fail
  rw [hW3.out]
  go_upto_region 24 with fail
  go_region_held3 (fun w' => Below W3.heap.size W3 w' ∧ w'.cell? ⟨W'.heap.size, 0, none⟩ = some (strV what)) (first | with_reducible exact sI | with_reducible exact hI)
    (first
      | (go_at_call 40; refine (rnums_any _).mono ?_; rintro e w5 ⟨b5, rfl, hS5, hb5, _⟩; have hb5' := bl_trans sB hb5; have hI := And.intro hb5' (hkN.out _ hb5').1; replace hS5 := Lib.hid hS5)
      | (go_at_call 39; (with_reducible refine (hi1.out _ _ hS5.out).mono ?_); rintro e w6 ⟨rfl, rfl⟩))
  go_upto_region 25 with fail
  obtain ⟨w6, hw6⟩ : ∃ w6, w6 = w5 := ⟨_, rfl⟩
  subst hw6
  have hb6 := hI.1
  clear sI sB hI hb5 hb5' hS5
  have sB : Below W3.heap.size W3 w6.drew := bl_drew hb6
  have sI := And.intro sB (⟨(hkN.out _ sB).1, (hkN.out _ sB).2.1, (hkN.out _ sB).2.2.2.1⟩ : _ ∧ _ ∧ _)
  go_region_held3 (fun w' => Below W3.heap.size W3 w' ∧ w'.cell? ⟨W'.heap.size, 0, none⟩ = some (strV what) ∧ w'.cell? ⟨W'.heap.size, 3, none⟩ = some (.int .i64 n) ∧ (stLoad ⟨W'.heap.size + 1 + 1, 0, none⟩).run Tryz.prog w' = .ok (.agg C2) w') (first | with_reducible exact sI | with_reducible exact hI)
    (first | (go_at_call 41; (with_reducible refine (hcn.out _ sB).mono ?_); rintro e w7 ⟨rfl, hb7⟩; have hb7' := bl_trans sB hb7; have hI := And.intro hb7' (⟨(hkN.out _ hb7').1, (hkN.out _ hb7').2.1, (hkN.out _ hb7').2.2.2.1⟩ : _ ∧ _ ∧ _)))
  obtain ⟨m1, m2, m3, m4, m5⟩ := hkN.out _ hI.1
  have hb7 := hI.1
  clear sI sB hI hkN hcn
  have hsv := Lib.hid ((sign_val x2 n).2.2.2.2.1)
  go_wp2_with fail
  go_ret
  exact ⟨by rw [hsv.out]; rfl, bl_trans hb hb7⟩
set_option maxHeartbeats 8000000 in
set_option maxRecDepth 100000 in
theorem node_num_ge {lo hi : Nat} {W : World} (hh : hi ≤ W.heap.size) {what : List UInt8} {f : Sv → Int} (hf : CM.numOf what = some f) (la : Option Addr) (ln lc : Nat) (n : Int) (ba : Option Addr) (bn bc : Nat) : NodeIs lo hi (nodeC what la ln lc [62, 61] n ba bn bc) (fun was now => CM.signOf [62, 61] (f now) n) W := by
  obtain ⟨a1, a2, a3, a4, a5, a6, a7, a8, a9⟩ := num_not hf
  have hin := in_nums what
  rw [hf] at hin
  refine ⟨hh, ⟨_, _, _, _, _, _, _, _, _, rfl⟩, ?_⟩
  intro W' hkp s1 s2 v1 v2 h1 h2
  obtain ⟨W3, hW3, hN, hS1, hS2, hb⟩ := three W' 81 35 35 (nodeC what la ln lc [62, 61] n ba bn bc) s1.cells s2.cells
  have n0 : W3.cell? ⟨W'.heap.size, 0, none⟩ = _ := hN.cell 0
  have n1 : W3.cell? ⟨W'.heap.size, 1, none⟩ = _ := hN.cell 1
  have n2 : W3.cell? ⟨W'.heap.size, 2, none⟩ = _ := hN.cell 2
  have n3 : W3.cell? ⟨W'.heap.size, 3, none⟩ = _ := hN.cell 3
  have n4 : W3.cell? ⟨W'.heap.size, 4, none⟩ = _ := hN.cell 4
  unfold nodeC at n0 n1 n2 n3 n4 hW3 ⊢
  simp only [List.getElem?_cons_zero, List.getElem?_cons_succ] at n0 n1 n2 n3 n4
  have l0 := hN.lt
  have l1 := hS1.lt
  have l2 := hS2.lt
  have hkN := Lib.hid (fun w' (hb : Below W3.heap.size W3 w') => (⟨(hN.below hb).cell 0, (hN.below hb).cell 3, stLoad_is s1 (hS1.below hb), stLoad_is s2 (hS2.below hb), (hN.below hb).cell 2⟩ : w'.cell? ⟨W'.heap.size, 0, none⟩ = some (strV what) ∧ w'.cell? ⟨W'.heap.size, 3, none⟩ = some (.int .i64 n) ∧ (stLoad ⟨W'.heap.size + 1, 0, none⟩).run Tryz.prog w' = .ok (.agg s1.cells.toArray) w' ∧ (stLoad ⟨W'.heap.size + 1 + 1, 0, none⟩).run Tryz.prog w' = .ok (.agg s2.cells.toArray) w' ∧ w'.cell? ⟨W'.heap.size, 2, none⟩ = some (strV [62, 61])))
  have hcn := Lib.hid (fun w' (hw : Below W3.heap.size W3 w') => rnum_any (h2.below (bl_trans hb hw)) hf)
  have hcw := Lib.hid (fun w' (hw : Below W3.heap.size W3 w') => rnum_any (h1.below (bl_trans hb hw)) hf)
  have hi1 := Lib.hid (fun w' b (hS : StrsAt w' b numsL) => (by have := in_at what numsL 4 rfl w' b 4 hS (by omega); rw [hin] at this; exact this : Calls Tryz.prog 39 #[strV what, .slice (some ⟨b, 0, none⟩) 4 4] w' fun e w2 => e = .returned (.bool true) ∧ w' = w2))
  clear hN hS1 hS2 h1 h2 hkp hin
  obtain ⟨C1, hC1⟩ : ∃ C, s1.cells.toArray = C := ⟨_, rfl⟩
  obtain ⟨C2, hC2⟩ : ∃ C, s2.cells.toArray = C := ⟨_, rfl⟩
  rw [hC1] at hW3 hkN hcw
  rw [hC2] at hW3 hkN hcn
  rw [hC1, hC2]
  replace hC1 := Lib.hid hC1
  replace hC2 := Lib.hid hC2
  replace hW3 := Lib.hid hW3
  show Calls _ _ _ _ (fun e w' => e = .returned (.bool (CM.signOf [62, 61] (f v2) n)) ∧ Below W'.heap.size W' w')
  generalize hx2 : f v2 = x2 at *
  generalize hx1 : f v1 = x1 at *
  replace hx1 := Lib.hid hx1
  replace hx2 := Lib.hid hx2
  have sB : Below W3.heap.size W3 W3.drew := bl_drew (Below.refl _ _)
  have sI := And.intro sB (hkN.out _ sB).1
  clear hf
  go_enter Tryz.func27, Tryz.ntmps27
  go_upto_region 1 with fail
  rw [hW3.out]
  go_upto_region 24 with fail
  go_region_held3 (fun w' => Below W3.heap.size W3 w' ∧ w'.cell? ⟨W'.heap.size, 0, none⟩ = some (strV what)) (first | with_reducible exact sI | with_reducible exact hI)
    (first
      | (go_at_call 40; refine (rnums_any _).mono ?_; rintro e w5 ⟨b5, rfl, hS5, hb5, _⟩; have hb5' := bl_trans sB hb5; have hI := And.intro hb5' (hkN.out _ hb5').1; replace hS5 := Lib.hid hS5)
      | (go_at_call 39; (with_reducible refine (hi1.out _ _ hS5.out).mono ?_); rintro e w6 ⟨rfl, rfl⟩))
  go_upto_region 25 with fail
  obtain ⟨w6, hw6⟩ : ∃ w6, w6 = w5 := ⟨_, rfl⟩
  subst hw6
  have hb6 := hI.1
  clear sI sB hI hb5 hb5' hS5
  have sB : Below W3.heap.size W3 w6.drew := bl_drew hb6
  have sI := And.intro sB (⟨(hkN.out _ sB).1, (hkN.out _ sB).2.1, (hkN.out _ sB).2.2.2.1⟩ : _ ∧ _ ∧ _)
  go_region_held3 (fun w' => Below W3.heap.size W3 w' ∧ w'.cell? ⟨W'.heap.size, 0, none⟩ = some (strV what) ∧ w'.cell? ⟨W'.heap.size, 3, none⟩ = some (.int .i64 n) ∧ (stLoad ⟨W'.heap.size + 1 + 1, 0, none⟩).run Tryz.prog w' = .ok (.agg C2) w') (first | with_reducible exact sI | with_reducible exact hI)
    (first | (go_at_call 41; (with_reducible refine (hcn.out _ sB).mono ?_); rintro e w7 ⟨rfl, hb7⟩; have hb7' := bl_trans sB hb7; have hI := And.intro hb7' (⟨(hkN.out _ hb7').1, (hkN.out _ hb7').2.1, (hkN.out _ hb7').2.2.2.1⟩ : _ ∧ _ ∧ _)))
  obtain ⟨m1, m2, m3, m4, m5⟩ := hkN.out _ hI.1
  have hb7 := hI.1
  clear sI sB hI hkN hcn
  have hsv := Lib.hid ((sign_val x2 n).2.2.2.2.2)
  go_wp2_with fail
  go_ret
  exact ⟨by rw [hsv.out]; rfl, bl_trans hb hb7⟩
end Go.Proofs.YtcjcflmnghhbaaaGreat
/-
  The reference's Holds at a text; of chapter 27. (Printed by gen_rh2.py.)
  Conditions: as each theorem states them.
-/
namespace Go.Proofs.YtcjcflmnghhbaaaGreat
open Go.RowKit
set_option linter.unusedVariables false
set_option linter.unusedSimpArgs false
attribute [local go_sem ↓] load_st
open CM (Sv)
theorem beq_dec (a b : List UInt8) : (a == b) = decide (a = b) := by rw [Bool.eq_iff_iff]; simp
/-- bytes in a block from lo to hi -/
def BytesI (lo hi : Nat) (W : World) (a : Option Addr) (t : List UInt8) : Prop := 0 < t.length → ∃ p o, a = some ⟨p, o, none⟩ ∧ lo ≤ p ∧ p < hi ∧ ByteRow W p o t
theorem BytesI.at {lo hi : Nat} {W W' : World} {a : Option Addr} {t : List UInt8} (h : BytesI lo hi W a t) (hh : hi ≤ W.heap.size) (hk : KeepI lo hi W W') : BytesAt W' a t := fun h0 => by
  obtain ⟨p, o, e, h1, h2, h3⟩ := h h0
  exact ⟨p, o, e, by have := hk.1; omega, fun i hi => (World.cell?_of_block (a := ⟨p, o + i, none⟩) (hk.2 p h1 h2)).trans (h3 i hi)⟩
set_option maxHeartbeats 8000000 in
set_option maxRecDepth 100000 in
theorem node_txt_chg {lo hi : Nat} {W : World} (hh : hi ≤ W.heap.size) {what : List UInt8} {f : Sv → List UInt8} (hf : CM.txtOf what = some f) (la : Option Addr) (ln lc : Nat) (n : Int) (ba : Option Addr) (bn bc : Nat) : NodeIs lo hi (nodeC what la ln lc [99, 104, 97, 110, 103, 101, 100] n ba bn bc) (fun was now => !(f was == f now)) W := by
  obtain ⟨a1, a2, a3, a4, a5, a6, a7, a8, a9⟩ := txt_not hf
  have hin := in_nums what
  rw [txt_num hf] at hin
  refine ⟨hh, ⟨_, _, _, _, _, _, _, _, _, rfl⟩, ?_⟩
  intro W' hkp s1 s2 v1 v2 h1 h2
  obtain ⟨W3, hW3, hN, hS1, hS2, hb⟩ := three W' 81 35 35 (nodeC what la ln lc [99, 104, 97, 110, 103, 101, 100] n ba bn bc) s1.cells s2.cells
  have n0 : W3.cell? ⟨W'.heap.size, 0, none⟩ = _ := hN.cell 0
  have n1 : W3.cell? ⟨W'.heap.size, 1, none⟩ = _ := hN.cell 1
  have n2 : W3.cell? ⟨W'.heap.size, 2, none⟩ = _ := hN.cell 2
  have n3 : W3.cell? ⟨W'.heap.size, 3, none⟩ = _ := hN.cell 3
  have n4 : W3.cell? ⟨W'.heap.size, 4, none⟩ = _ := hN.cell 4
  unfold nodeC at n0 n1 n2 n3 n4 hW3 ⊢
  simp only [List.getElem?_cons_zero, List.getElem?_cons_succ] at n0 n1 n2 n3 n4
  have l0 := hN.lt
  have l1 := hS1.lt
  have l2 := hS2.lt
  have hkN := Lib.hid (fun w' (hb : Below W3.heap.size W3 w') => (⟨(hN.below hb).cell 0, (hN.below hb).cell 4, stLoad_is s1 (hS1.below hb), stLoad_is s2 (hS2.below hb), (hN.below hb).cell 2⟩ : w'.cell? ⟨W'.heap.size, 0, none⟩ = some (strV what) ∧ w'.cell? ⟨W'.heap.size, 4, none⟩ = some (.slice ba bn bc) ∧ (stLoad ⟨W'.heap.size + 1, 0, none⟩).run Tryz.prog w' = .ok (.agg s1.cells.toArray) w' ∧ (stLoad ⟨W'.heap.size + 1 + 1, 0, none⟩).run Tryz.prog w' = .ok (.agg s2.cells.toArray) w' ∧ w'.cell? ⟨W'.heap.size, 2, none⟩ = some (strV [99, 104, 97, 110, 103, 101, 100])))
  have hcn := Lib.hid (fun w' (hw : Below W3.heap.size W3 w') => rtxt_any (h2.below (bl_trans hb hw)) hf)
  have hcw := Lib.hid (fun w' (hw : Below W3.heap.size W3 w') => rtxt_any (h1.below (bl_trans hb hw)) hf)
  have hi1 := Lib.hid (fun w' b (hS : StrsAt w' b numsL) => (by have := in_at what numsL 4 rfl w' b 4 hS (by omega); rw [hin] at this; exact this : Calls Tryz.prog 39 #[strV what, .slice (some ⟨b, 0, none⟩) 4 4] w' fun e w2 => e = .returned (.bool false) ∧ w' = w2))
  clear hN hS1 hS2 h1 h2 hkp hin
  obtain ⟨C1, hC1⟩ : ∃ C, s1.cells.toArray = C := ⟨_, rfl⟩
  obtain ⟨C2, hC2⟩ : ∃ C, s2.cells.toArray = C := ⟨_, rfl⟩
  rw [hC1] at hW3 hkN hcw
  rw [hC2] at hW3 hkN hcn
  rw [hC1, hC2]
  replace hC1 := Lib.hid hC1
  replace hC2 := Lib.hid hC2
  replace hW3 := Lib.hid hW3
  show Calls _ _ _ _ (fun e w' => e = .returned (.bool (!(f v1 == f v2))) ∧ Below W'.heap.size W' w')
  generalize hx2 : f v2 = x2 at *
  generalize hx1 : f v1 = x1 at *
  replace hx1 := Lib.hid hx1
  replace hx2 := Lib.hid hx2
  have sB : Below W3.heap.size W3 W3.drew := bl_drew (Below.refl _ _)
  have sI := And.intro sB (hkN.out _ sB).1
  clear hf
  go_enter Tryz.func27, Tryz.ntmps27
  go_upto_region 1 with fail
  rw [hW3.out]
  go_upto_region 24 with fail
  go_region_held3 (fun w' => Below W3.heap.size W3 w' ∧ w'.cell? ⟨W'.heap.size, 0, none⟩ = some (strV what)) (first | with_reducible exact sI | with_reducible exact hI)
    (first
      | (go_at_call 40; refine (rnums_any _).mono ?_; rintro e w5 ⟨b5, rfl, hS5, hb5, _⟩; have hb5' := bl_trans sB hb5; have hI := And.intro hb5' (hkN.out _ hb5').1; replace hS5 := Lib.hid hS5)
      | (go_at_call 39; (with_reducible refine (hi1.out _ _ hS5.out).mono ?_); rintro e w6 ⟨rfl, rfl⟩))
  go_upto_region 40 with fail
  obtain ⟨m1, m2, m3, m4, m5⟩ := hkN.out _ hI.1
  have hb6 := hI.1
  clear sI sB hI hb5 hb5' hS5 hi1
  go_upto_region 42 with (go_at_call 42; (with_reducible refine (hcn.out _ hb6).mono ?_); rintro e w7 ⟨a7, c7, rfl, hc7, hB7, hl7, hb7⟩; have hb67 := bl_trans hb6 hb7; obtain ⟨o1, o2, o3, o4, o5⟩ := hkN.out _ hb67)
  replace hB7 := Lib.hid hB7
  go_wp2_with (first
    | (go_at_call 42; (with_reducible refine (hcw.out _ hb67).mono ?_); rintro e w8 ⟨a8, c8, rfl, hc8, hB8, hl8, hb8⟩; have hsm := Lib.hid (same_bytes a8 a7 c8 c7 x1 x2 w8 (by omega) (by omega) hB8 (hB7.out.below hb8)); replace hB8 := Lib.hid hB8)
    | (go_at_call 43; (with_reducible refine hsm.out.mono ?_); rintro e w9 ⟨rfl, m, rfl⟩))
  go_ret
  exact ⟨by rw [beq_dec]; rfl, bl_trans hb (bl_drewN (bl_trans hb67 hb8) _)⟩
set_option maxHeartbeats 8000000 in
set_option maxRecDepth 100000 in
theorem node_txt_is {lo hi : Nat} {W : World} (hh : hi ≤ W.heap.size) {what : List UInt8} {f : Sv → List UInt8} (hf : CM.txtOf what = some f) (la : Option Addr) (ln lc : Nat) (n : Int) (ba : Option Addr) (bc : Nat) {t : List UInt8} (hbt : BytesI lo hi W ba t) (htc : t.length ≤ bc) (htl : t.length ≤ 100000) : NodeIs lo hi (nodeC what la ln lc [105, 115] n ba t.length bc) (fun was now => f now == t) W := by
  obtain ⟨a1, a2, a3, a4, a5, a6, a7, a8, a9⟩ := txt_not hf
  have hin := in_nums what
  rw [txt_num hf] at hin
  refine ⟨hh, ⟨_, _, _, _, _, _, _, _, _, rfl⟩, ?_⟩
  intro W' hkp s1 s2 v1 v2 h1 h2
  obtain ⟨W3, hW3, hN, hS1, hS2, hb⟩ := three W' 81 35 35 (nodeC what la ln lc [105, 115] n ba t.length bc) s1.cells s2.cells
  have n0 : W3.cell? ⟨W'.heap.size, 0, none⟩ = _ := hN.cell 0
  have n1 : W3.cell? ⟨W'.heap.size, 1, none⟩ = _ := hN.cell 1
  have n2 : W3.cell? ⟨W'.heap.size, 2, none⟩ = _ := hN.cell 2
  have n3 : W3.cell? ⟨W'.heap.size, 3, none⟩ = _ := hN.cell 3
  have n4 : W3.cell? ⟨W'.heap.size, 4, none⟩ = _ := hN.cell 4
  unfold nodeC at n0 n1 n2 n3 n4 hW3 ⊢
  simp only [List.getElem?_cons_zero, List.getElem?_cons_succ] at n0 n1 n2 n3 n4
  have l0 := hN.lt
  have l1 := hS1.lt
  have l2 := hS2.lt
  have hkN := Lib.hid (fun w' (hb : Below W3.heap.size W3 w') => (⟨(hN.below hb).cell 0, (hN.below hb).cell 4, stLoad_is s1 (hS1.below hb), stLoad_is s2 (hS2.below hb), (hN.below hb).cell 2⟩ : w'.cell? ⟨W'.heap.size, 0, none⟩ = some (strV what) ∧ w'.cell? ⟨W'.heap.size, 4, none⟩ = some (.slice ba t.length bc) ∧ (stLoad ⟨W'.heap.size + 1, 0, none⟩).run Tryz.prog w' = .ok (.agg s1.cells.toArray) w' ∧ (stLoad ⟨W'.heap.size + 1 + 1, 0, none⟩).run Tryz.prog w' = .ok (.agg s2.cells.toArray) w' ∧ w'.cell? ⟨W'.heap.size, 2, none⟩ = some (strV [105, 115])))
  have hbt3 := Lib.hid (fun w' (hw : Below W3.heap.size W3 w') => ((hbt.at hh hkp).below (bl_trans hb hw)))
  have hcn := Lib.hid (fun w' (hw : Below W3.heap.size W3 w') => rtxt_any (h2.below (bl_trans hb hw)) hf)
  have hcw := Lib.hid (fun w' (hw : Below W3.heap.size W3 w') => rtxt_any (h1.below (bl_trans hb hw)) hf)
  have hi1 := Lib.hid (fun w' b (hS : StrsAt w' b numsL) => (by have := in_at what numsL 4 rfl w' b 4 hS (by omega); rw [hin] at this; exact this : Calls Tryz.prog 39 #[strV what, .slice (some ⟨b, 0, none⟩) 4 4] w' fun e w2 => e = .returned (.bool false) ∧ w' = w2))
  clear hN hS1 hS2 h1 h2 hkp hin
  obtain ⟨C1, hC1⟩ : ∃ C, s1.cells.toArray = C := ⟨_, rfl⟩
  obtain ⟨C2, hC2⟩ : ∃ C, s2.cells.toArray = C := ⟨_, rfl⟩
  rw [hC1] at hW3 hkN hcw
  rw [hC2] at hW3 hkN hcn
  rw [hC1, hC2]
  replace hC1 := Lib.hid hC1
  replace hC2 := Lib.hid hC2
  replace hW3 := Lib.hid hW3
  show Calls _ _ _ _ (fun e w' => e = .returned (.bool (f v2 == t)) ∧ Below W'.heap.size W' w')
  generalize hx2 : f v2 = x2 at *
  generalize hx1 : f v1 = x1 at *
  replace hx1 := Lib.hid hx1
  replace hx2 := Lib.hid hx2
  have sB : Below W3.heap.size W3 W3.drew := bl_drew (Below.refl _ _)
  have sI := And.intro sB (hkN.out _ sB).1
  clear hf
  go_enter Tryz.func27, Tryz.ntmps27
  go_upto_region 1 with fail
  rw [hW3.out]
  go_upto_region 24 with fail
  go_region_held3 (fun w' => Below W3.heap.size W3 w' ∧ w'.cell? ⟨W'.heap.size, 0, none⟩ = some (strV what)) (first | with_reducible exact sI | with_reducible exact hI)
    (first
      | (go_at_call 40; refine (rnums_any _).mono ?_; rintro e w5 ⟨b5, rfl, hS5, hb5, _⟩; have hb5' := bl_trans sB hb5; have hI := And.intro hb5' (hkN.out _ hb5').1; replace hS5 := Lib.hid hS5)
      | (go_at_call 39; (with_reducible refine (hi1.out _ _ hS5.out).mono ?_); rintro e w6 ⟨rfl, rfl⟩))
  go_upto_region 40 with fail
  obtain ⟨m1, m2, m3, m4, m5⟩ := hkN.out _ hI.1
  have hb6 := hI.1
  clear sI sB hI hb5 hb5' hS5 hi1
  go_wp2_with (first
    | (go_at_call 42; (with_reducible refine (hcn.out _ hb6).mono ?_); rintro e w7 ⟨a7, c7, rfl, hc7, hB7, hl7, hb7⟩; have hb67 := bl_trans hb6 hb7; obtain ⟨o1, o2, o3, o4, o5⟩ := hkN.out _ hb67; have hsm := Lib.hid (same_bytes a7 ba c7 bc x2 t w7 (by omega) (by omega) hB7 (hbt3.out _ hb67)); replace hB7 := Lib.hid hB7)
    | (go_at_call 43; (with_reducible refine hsm.out.mono ?_); rintro e w9 ⟨rfl, m, rfl⟩))
  go_ret
  exact ⟨by rw [beq_dec]; rfl, bl_trans hb (bl_drewN hb67 _)⟩
set_option maxHeartbeats 8000000 in
set_option maxRecDepth 100000 in
theorem node_txt_has {lo hi : Nat} {W : World} (hh : hi ≤ W.heap.size) {what : List UInt8} {f : Sv → List UInt8} (hf : CM.txtOf what = some f) (la : Option Addr) (ln lc : Nat) (n : Int) (ba : Option Addr) (bc : Nat) {t : List UInt8} (hbt : BytesI lo hi W ba t) (htc : t.length ≤ bc) (htl : t.length ≤ 100000) : NodeIs lo hi (nodeC what la ln lc [104, 97, 115] n ba t.length bc) (fun was now => CM.hasS (f now) t) W := by
  obtain ⟨a1, a2, a3, a4, a5, a6, a7, a8, a9⟩ := txt_not hf
  have hin := in_nums what
  rw [txt_num hf] at hin
  refine ⟨hh, ⟨_, _, _, _, _, _, _, _, _, rfl⟩, ?_⟩
  intro W' hkp s1 s2 v1 v2 h1 h2
  obtain ⟨W3, hW3, hN, hS1, hS2, hb⟩ := three W' 81 35 35 (nodeC what la ln lc [104, 97, 115] n ba t.length bc) s1.cells s2.cells
  have n0 : W3.cell? ⟨W'.heap.size, 0, none⟩ = _ := hN.cell 0
  have n1 : W3.cell? ⟨W'.heap.size, 1, none⟩ = _ := hN.cell 1
  have n2 : W3.cell? ⟨W'.heap.size, 2, none⟩ = _ := hN.cell 2
  have n3 : W3.cell? ⟨W'.heap.size, 3, none⟩ = _ := hN.cell 3
  have n4 : W3.cell? ⟨W'.heap.size, 4, none⟩ = _ := hN.cell 4
  unfold nodeC at n0 n1 n2 n3 n4 hW3 ⊢
  simp only [List.getElem?_cons_zero, List.getElem?_cons_succ] at n0 n1 n2 n3 n4
  have l0 := hN.lt
  have l1 := hS1.lt
  have l2 := hS2.lt
  have hkN := Lib.hid (fun w' (hb : Below W3.heap.size W3 w') => (⟨(hN.below hb).cell 0, (hN.below hb).cell 4, stLoad_is s1 (hS1.below hb), stLoad_is s2 (hS2.below hb), (hN.below hb).cell 2⟩ : w'.cell? ⟨W'.heap.size, 0, none⟩ = some (strV what) ∧ w'.cell? ⟨W'.heap.size, 4, none⟩ = some (.slice ba t.length bc) ∧ (stLoad ⟨W'.heap.size + 1, 0, none⟩).run Tryz.prog w' = .ok (.agg s1.cells.toArray) w' ∧ (stLoad ⟨W'.heap.size + 1 + 1, 0, none⟩).run Tryz.prog w' = .ok (.agg s2.cells.toArray) w' ∧ w'.cell? ⟨W'.heap.size, 2, none⟩ = some (strV [104, 97, 115])))
  have hbt3 := Lib.hid (fun w' (hw : Below W3.heap.size W3 w') => ((hbt.at hh hkp).below (bl_trans hb hw)))
  have hcn := Lib.hid (fun w' (hw : Below W3.heap.size W3 w') => rtxt_any (h2.below (bl_trans hb hw)) hf)
  have hcw := Lib.hid (fun w' (hw : Below W3.heap.size W3 w') => rtxt_any (h1.below (bl_trans hb hw)) hf)
  have hi1 := Lib.hid (fun w' b (hS : StrsAt w' b numsL) => (by have := in_at what numsL 4 rfl w' b 4 hS (by omega); rw [hin] at this; exact this : Calls Tryz.prog 39 #[strV what, .slice (some ⟨b, 0, none⟩) 4 4] w' fun e w2 => e = .returned (.bool false) ∧ w' = w2))
  clear hN hS1 hS2 h1 h2 hkp hin
  obtain ⟨C1, hC1⟩ : ∃ C, s1.cells.toArray = C := ⟨_, rfl⟩
  obtain ⟨C2, hC2⟩ : ∃ C, s2.cells.toArray = C := ⟨_, rfl⟩
  rw [hC1] at hW3 hkN hcw
  rw [hC2] at hW3 hkN hcn
  rw [hC1, hC2]
  replace hC1 := Lib.hid hC1
  replace hC2 := Lib.hid hC2
  replace hW3 := Lib.hid hW3
  show Calls _ _ _ _ (fun e w' => e = .returned (.bool (CM.hasS (f v2) t)) ∧ Below W'.heap.size W' w')
  generalize hx2 : f v2 = x2 at *
  generalize hx1 : f v1 = x1 at *
  replace hx1 := Lib.hid hx1
  replace hx2 := Lib.hid hx2
  have sB : Below W3.heap.size W3 W3.drew := bl_drew (Below.refl _ _)
  have sI := And.intro sB (hkN.out _ sB).1
  clear hf
  go_enter Tryz.func27, Tryz.ntmps27
  go_upto_region 1 with fail
  rw [hW3.out]
  go_upto_region 24 with fail
  go_region_held3 (fun w' => Below W3.heap.size W3 w' ∧ w'.cell? ⟨W'.heap.size, 0, none⟩ = some (strV what)) (first | with_reducible exact sI | with_reducible exact hI)
    (first
      | (go_at_call 40; refine (rnums_any _).mono ?_; rintro e w5 ⟨b5, rfl, hS5, hb5, _⟩; have hb5' := bl_trans sB hb5; have hI := And.intro hb5' (hkN.out _ hb5').1; replace hS5 := Lib.hid hS5)
      | (go_at_call 39; (with_reducible refine (hi1.out _ _ hS5.out).mono ?_); rintro e w6 ⟨rfl, rfl⟩))
  go_upto_region 40 with fail
  obtain ⟨m1, m2, m3, m4, m5⟩ := hkN.out _ hI.1
  have hb6 := hI.1
  clear sI sB hI hb5 hb5' hS5 hi1
  go_wp2_with (first
    | (go_at_call 42; (with_reducible refine (hcn.out _ hb6).mono ?_); rintro e w7 ⟨a7, c7, rfl, hc7, hB7, hl7, hb7⟩; have hb67 := bl_trans hb6 hb7; obtain ⟨o1, o2, o3, o4, o5⟩ := hkN.out _ hb67; have hsm := Lib.hid (rhas_any a7 ba c7 bc x2 t w7 (by omega) (by omega) hc7 hB7 (hbt3.out _ hb67)); replace hB7 := Lib.hid hB7)
    | (go_at_call 44; (with_reducible refine hsm.out.mono ?_); rintro e w9 ⟨rfl, m, rfl⟩))
  go_ret
  exact ⟨rfl, bl_trans hb (bl_drewN hb67 _)⟩
end Go.Proofs.YtcjcflmnghhbaaaGreat
/-
  The reference's Holds at not, or, and; of chapter 27. (Printed by gen_rh2.py.)
  Conditions: as each theorem states them.
-/
namespace Go.Proofs.YtcjcflmnghhbaaaGreat
open Go.RowKit
set_option linter.unusedVariables false
set_option linter.unusedSimpArgs false
attribute [local go_sem ↓] load_st
open CM (Sv)
/-- nodes one behind the other in a block -/
def RowIs (lo hi r : Nat) (l : List (List Value × CM.M)) (W : World) : Prop := hi ≤ W.heap.size ∧ lo ≤ r ∧ r < hi ∧ ∀ i (h : i < l.length), NodeIs lo hi l[i].1 l[i].2 W ∧ ∀ j u, l[i].1[j]? = some u → W.cell? ⟨r, i * 5 + j, none⟩ = some u
theorem RowIs.keep {lo hi r : Nat} {l : List (List Value × CM.M)} {W W' : World} (h : RowIs lo hi r l W) (hk : KeepI lo hi W W') : RowIs lo hi r l W' :=
  ⟨Nat.le_trans h.1 hk.1, h.2.1, h.2.2.1, fun i hi2 => ⟨(h.2.2.2 i hi2).1.keep hk, fun j u hu => (World.cell?_of_block (a := ⟨r, i * 5 + j, none⟩) (hk.2 r h.2.1 h.2.2.1)).trans ((h.2.2.2 i hi2).2 j u hu)⟩⟩
theorem RowIs.below {lo hi r : Nat} {l : List (List Value × CM.M)} {W W' : World} (h : RowIs lo hi r l W) (hb : Below W.heap.size W W') : RowIs lo hi r l W' := h.keep (KeepI.below hb h.1)
set_option maxHeartbeats 8000000 in
set_option maxRecDepth 100000 in
theorem NodeIs.not {lo hi r : Nat} {W : World} {v : List Value} {phi : CM.M} (hr : RowIs lo hi r [(v, phi)] W) (lc : Nat) (hlc : 1 ≤ lc) (sign : List UInt8) (n : Int) (ba : Option Addr) (bn bc : Nat) : NodeIs lo hi (nodeC CM.notW (some ⟨r, 0, none⟩) 1 lc sign n ba bn bc) (fun a b => !phi a b) W := by
  refine ⟨hr.1, ⟨_, _, _, _, _, _, _, _, _, rfl⟩, ?_⟩
  intro W' hkp s1 s2 v1 v2 h1 h2
  obtain ⟨W3, hW3, hN, hS1, hS2, hb⟩ := three W' 81 35 35 (nodeC CM.notW (some ⟨r, 0, none⟩) 1 lc sign n ba bn bc) s1.cells s2.cells
  have n0 : W3.cell? ⟨W'.heap.size, 0, none⟩ = _ := hN.cell 0
  have n1 : W3.cell? ⟨W'.heap.size, 1, none⟩ = _ := hN.cell 1
  have n2 : W3.cell? ⟨W'.heap.size, 2, none⟩ = _ := hN.cell 2
  have n3 : W3.cell? ⟨W'.heap.size, 3, none⟩ = _ := hN.cell 3
  have n4 : W3.cell? ⟨W'.heap.size, 4, none⟩ = _ := hN.cell 4
  unfold nodeC at n0 n1 n2 n3 n4 hW3 ⊢
  simp only [List.getElem?_cons_zero, List.getElem?_cons_succ] at n0 n1 n2 n3 n4
  have l0 := hN.lt
  have l1 := hS1.lt
  have l2 := hS2.lt
  have hkN := Lib.hid (fun w' (hb : Below W3.heap.size W3 w') => (⟨(hN.below hb).cell 0, (hN.below hb).cell 1, stLoad_is s1 (hS1.below hb), stLoad_is s2 (hS2.below hb)⟩ : w'.cell? ⟨W'.heap.size, 0, none⟩ = some (strV CM.notW) ∧ w'.cell? ⟨W'.heap.size, 1, none⟩ = some (.slice (some ⟨r, 0, none⟩) 1 lc) ∧ (stLoad ⟨W'.heap.size + 1, 0, none⟩).run Tryz.prog w' = .ok (.agg s1.cells.toArray) w' ∧ (stLoad ⟨W'.heap.size + 1 + 1, 0, none⟩).run Tryz.prog w' = .ok (.agg s2.cells.toArray) w'))
  have hrW := hr.keep hkp
  obtain ⟨hn0, hcl0⟩ := hrW.2.2.2 0 (by simp)
  simp only [List.getElem_cons_zero, Nat.zero_mul, Nat.zero_add] at hn0 hcl0
  have hrl : r < W'.heap.size := by have := hrW.1; have := hrW.2.2.1; omega
  have hch := Lib.hid (fun w' (hw : Below W3.heap.size W3 w') => hn0.2.2 w' (KeepI.below (bl_trans hb hw) hn0.1) s1 s2 v1 v2 (h1.below (bl_trans hb hw)) (h2.below (bl_trans hb hw)))
  obtain ⟨xw, xa, xn, xc, xs, xm, xb, xbn, xbc, hve⟩ := hn0.2.1
  subst hve
  have hcc := Lib.hid (fun w' (hw : Below W3.heap.size W3 w') => (⟨((bl_trans hb hw).cell (p := ⟨r, 0, none⟩) hrl).trans (hcl0 0 _ rfl), ((bl_trans hb hw).cell (p := ⟨r, 1, none⟩) hrl).trans (hcl0 1 _ rfl), ((bl_trans hb hw).cell (p := ⟨r, 2, none⟩) hrl).trans (hcl0 2 _ rfl), ((bl_trans hb hw).cell (p := ⟨r, 3, none⟩) hrl).trans (hcl0 3 _ rfl), ((bl_trans hb hw).cell (p := ⟨r, 4, none⟩) hrl).trans (hcl0 4 _ rfl)⟩ : w'.cell? ⟨r, 0, none⟩ = some (strV xw) ∧ w'.cell? ⟨r, 1, none⟩ = some (.slice xa xn xc) ∧ w'.cell? ⟨r, 2, none⟩ = some (strV xs) ∧ w'.cell? ⟨r, 3, none⟩ = some (.int .i64 xm) ∧ w'.cell? ⟨r, 4, none⟩ = some (.slice xb xbn xbc)))
  unfold nodeC at hch
  clear hN hS1 hS2 h1 h2 hkp hn0 hcl0 hr hrW
  obtain ⟨C1, hC1⟩ : ∃ C, s1.cells.toArray = C := ⟨_, rfl⟩
  obtain ⟨C2, hC2⟩ : ∃ C, s2.cells.toArray = C := ⟨_, rfl⟩
  rw [hC1, hC2] at hW3 hkN hch
  rw [hC1, hC2]
  replace hC1 := Lib.hid hC1
  replace hC2 := Lib.hid hC2
  replace hW3 := Lib.hid hW3
  show Calls _ _ _ _ (fun e w' => e = .returned (.bool (!phi v1 v2)) ∧ Below W'.heap.size W' w')
  generalize phi v1 v2 = B at *
  have sB : Below W3.heap.size W3 W3.drew := bl_drew (Below.refl _ _)
  have z0 : (0 : Int) ≤ 0 := by omega
  have z1 : (0 : Int) < 1 := by omega
  have sI := And.intro sB (And.intro (hkN.out _ sB) (hcc.out _ sB))
  go_enter Tryz.func27, Tryz.ntmps27
  go_upto_region 1 with fail
  rw [hW3.out]
  go_upto_region 11 with fail
  go_region_held3 (fun w' => Below W3.heap.size W3 w' ∧ (w'.cell? ⟨W'.heap.size, 0, none⟩ = some (strV CM.notW) ∧ w'.cell? ⟨W'.heap.size, 1, none⟩ = some (.slice (some ⟨r, 0, none⟩) 1 lc) ∧ (stLoad ⟨W'.heap.size + 1, 0, none⟩).run Tryz.prog w' = .ok (.agg C1) w' ∧ (stLoad ⟨W'.heap.size + 1 + 1, 0, none⟩).run Tryz.prog w' = .ok (.agg C2) w') ∧ (w'.cell? ⟨r, 0, none⟩ = some (strV xw) ∧ w'.cell? ⟨r, 1, none⟩ = some (.slice xa xn xc) ∧ w'.cell? ⟨r, 2, none⟩ = some (strV xs) ∧ w'.cell? ⟨r, 3, none⟩ = some (.int .i64 xm) ∧ w'.cell? ⟨r, 4, none⟩ = some (.slice xb xbn xbc))) (first | with_reducible exact sI | with_reducible exact hI)
    (first | (go_at_call 27; (with_reducible refine (hch.out _ sB).mono ?_); rintro e w7 ⟨rfl, hb7⟩; have hb7' := bl_trans sB hb7; have hI := And.intro hb7' (And.intro (hkN.out _ hb7') (hcc.out _ hb7'))))
  go_wp2_with fail
  go_ret
  exact ⟨rfl, bl_trans hb hI.1⟩
set_option maxHeartbeats 8000000 in
set_option maxRecDepth 100000 in
theorem NodeIs.or {lo hi r : Nat} {W : World} {l : List (List Value × CM.M)} (hr : RowIs lo hi r l W) (hl : l.length ≤ 100000) (lc : Nat) (hlc : l.length ≤ lc) (sign : List UInt8) (n : Int) (ba : Option Addr) (bn bc : Nat) : NodeIs lo hi (nodeC CM.orW (some ⟨r, 0, none⟩) l.length lc sign n ba bn bc) (fun a b => l.any fun p => p.2 a b) W := by
  refine ⟨hr.1, ⟨_, _, _, _, _, _, _, _, _, rfl⟩, ?_⟩
  intro W' hkp s1 s2 v1 v2 h1 h2
  obtain ⟨W3, hW3, hN, hS1, hS2, hb⟩ := three W' 81 35 35 (nodeC CM.orW (some ⟨r, 0, none⟩) l.length lc sign n ba bn bc) s1.cells s2.cells
  have n0 : W3.cell? ⟨W'.heap.size, 0, none⟩ = _ := hN.cell 0
  have n1 : W3.cell? ⟨W'.heap.size, 1, none⟩ = _ := hN.cell 1
  have n2 : W3.cell? ⟨W'.heap.size, 2, none⟩ = _ := hN.cell 2
  have n3 : W3.cell? ⟨W'.heap.size, 3, none⟩ = _ := hN.cell 3
  have n4 : W3.cell? ⟨W'.heap.size, 4, none⟩ = _ := hN.cell 4
  unfold nodeC at n0 n1 n2 n3 n4 hW3 ⊢
  simp only [List.getElem?_cons_zero, List.getElem?_cons_succ] at n0 n1 n2 n3 n4
  have l0 := hN.lt
  have l1 := hS1.lt
  have l2 := hS2.lt
  have hkN := Lib.hid (fun w' (hb : Below W3.heap.size W3 w') => (⟨(hN.below hb).cell 0, (hN.below hb).cell 1, stLoad_is s1 (hS1.below hb), stLoad_is s2 (hS2.below hb)⟩ : w'.cell? ⟨W'.heap.size, 0, none⟩ = some (strV CM.orW) ∧ w'.cell? ⟨W'.heap.size, 1, none⟩ = some (.slice (some ⟨r, 0, none⟩) l.length lc) ∧ (stLoad ⟨W'.heap.size + 1, 0, none⟩).run Tryz.prog w' = .ok (.agg s1.cells.toArray) w' ∧ (stLoad ⟨W'.heap.size + 1 + 1, 0, none⟩).run Tryz.prog w' = .ok (.agg s2.cells.toArray) w'))
  have hrW := hr.keep hkp
  have hrl : r < W'.heap.size := by have := hrW.1; have := hrW.2.2.1; omega
  have hch := Lib.hid (fun i (hi : i < l.length) w' (hw : Below W3.heap.size W3 w') => (hrW.2.2.2 i hi).1.2.2 w' (KeepI.below (bl_trans hb hw) hrW.1) s1 s2 v1 v2 (h1.below (bl_trans hb hw)) (h2.below (bl_trans hb hw)))
  have hcc := Lib.hid (fun i (hi : i < l.length) => (⟨(hrW.2.2.2 i hi).1.2.1, fun w' (hw : Below W3.heap.size W3 w') j u hu => ((bl_trans hb hw).cell (p := ⟨r, i * 5 + j, none⟩) hrl).trans ((hrW.2.2.2 i hi).2 j u hu)⟩ : _ ∧ _))
  clear hN hS1 hS2 h1 h2 hkp hr hrW
  obtain ⟨C1, hC1⟩ : ∃ C, s1.cells.toArray = C := ⟨_, rfl⟩
  obtain ⟨C2, hC2⟩ : ∃ C, s2.cells.toArray = C := ⟨_, rfl⟩
  rw [hC1, hC2] at hW3 hkN hch
  rw [hC1, hC2]
  replace hC1 := Lib.hid hC1
  replace hC2 := Lib.hid hC2
  replace hW3 := Lib.hid hW3
  show Calls _ _ _ _ (fun e w' => e = .returned (.bool (l.any fun p => p.2 v1 v2)) ∧ Below W'.heap.size W' w')
  have hq0 : (CM.orW == [111, 114]) = true := rfl
  have hend := Lib.hid (fun (h : ∀ i (hi : i < l.length), l[i].2 v1 v2 = false) => (by rw [List.any_eq_false]; intro p hp; obtain ⟨i, hi, rfl⟩ := List.getElem_of_mem hp; simp [h i hi] : (l.any fun p => p.2 v1 v2) = false))
  have hhit := Lib.hid (fun i (hi : i < l.length) (h : l[i].2 v1 v2 = true) => (by rw [List.any_eq_true]; exact ⟨_, List.getElem_mem hi, h⟩ : (l.any fun p => p.2 v1 v2) = true))
  generalize (l.any fun p => p.2 v1 v2) = RR at *
  go_enter Tryz.func27, Tryz.ntmps27
  go_upto_region 1 with fail
  rw [hW3.out]
  go_wp2_with fail
  go_loopg [7] l.length (fun gh v wr => ∃ i : Nat, gh = l.length - i ∧ v = .int .i64 (i : Int) ∧ i ≤ l.length ∧ Hid (∀ j (hj : j < l.length), j < i → l[j].2 v1 v2 = false) ∧ Hid (Below W3.heap.size W3 wr))
  case atStart => exact ⟨0, by omega, rfl, Nat.zero_le _, Lib.hid (fun j _ h => absurd h (Nat.not_lt_zero _)), Lib.hid (Below.refl _ _)⟩
  case round =>
    obtain ⟨i, rfl, rfl, hi, hn, hbr⟩ := hrel
    obtain ⟨wo, hwo⟩ : ∃ wo : World, wo = wr := ⟨_, rfl⟩
    subst hwo
    have hb1 := hbr.out
    obtain ⟨m0, m1, m2, m3⟩ := hkN.out _ hb1
    have hlw : W'.heap.size < wo.heap.size := by have := hb1.size; omega
    have hrw : r < wo.heap.size := by have := hb1.size; have := hb.size; omega
    by_cases hlt : i < l.length
    · have z0 : (0 : Int) ≤ (i : Int) := by omega
      have z1 : (i : Int) < (l.length : Int) := by omega
      have sB : Below W3.heap.size W3 wo.drew := bl_drew hb1
      obtain ⟨⟨xw, xa, xn, xc, xs, xm, xb, xbn, xbc, hve⟩, hxc⟩ := hcc.out i hlt
      have hch1 := Lib.hid (hch.out i hlt)
      have hhit1 := Lib.hid (hhit.out i hlt)
      have hnx := Lib.hid (fun (h : l[i].2 v1 v2 = false) j (hj : j < l.length) (hji : j < i + 1) => (by
        by_cases e : j = i
        · subst e; exact h
        · exact hn.out j hj (by omega) : l[j].2 v1 v2 = false))
      obtain ⟨B, hB⟩ : ∃ B, l[i].2 v1 v2 = B := ⟨_, rfl⟩
      rw [hB] at hch1 hhit1 hnx
      rw [hve] at hch1 hxc
      replace hB := Lib.hid hB
      replace hve := Lib.hid hve
      have hcx := Lib.hid (fun w' (hw : Below W3.heap.size W3 w') => (⟨by have := hxc w' hw 0 _ rfl; rwa [Nat.add_zero] at this, hxc w' hw 1 _ rfl, hxc w' hw 2 _ rfl, hxc w' hw 3 _ rfl, hxc w' hw 4 _ rfl⟩ : w'.cell? ⟨r, i * 5, none⟩ = some (strV xw) ∧ w'.cell? ⟨r, i * 5 + 1, none⟩ = some (.slice xa xn xc) ∧ w'.cell? ⟨r, i * 5 + 2, none⟩ = some (strV xs) ∧ w'.cell? ⟨r, i * 5 + 3, none⟩ = some (.int .i64 xm) ∧ w'.cell? ⟨r, i * 5 + 4, none⟩ = some (.slice xb xbn xbc)))
      unfold nodeC at hch1
      have sI := And.intro sB (And.intro (hkN.out _ sB) (hcx.out _ sB))
      have hwi : IntKind.i64.wrap ((i : Int) + 1) = (i : Int) + 1 := IntWalk.i64_in _ (by omega)
      clear hxc hch hhit hend hcc
      replace hbr := Lib.hid hbr
      go_upto_region 7 with fail
      go_region_held3 (fun w' => Below W3.heap.size W3 w' ∧ (w'.cell? ⟨W'.heap.size, 0, none⟩ = some (strV CM.orW) ∧ w'.cell? ⟨W'.heap.size, 1, none⟩ = some (.slice (some ⟨r, 0, none⟩) l.length lc) ∧ (stLoad ⟨W'.heap.size + 1, 0, none⟩).run Tryz.prog w' = .ok (.agg C1) w' ∧ (stLoad ⟨W'.heap.size + 1 + 1, 0, none⟩).run Tryz.prog w' = .ok (.agg C2) w') ∧ (w'.cell? ⟨r, i * 5, none⟩ = some (strV xw) ∧ w'.cell? ⟨r, i * 5 + 1, none⟩ = some (.slice xa xn xc) ∧ w'.cell? ⟨r, i * 5 + 2, none⟩ = some (strV xs) ∧ w'.cell? ⟨r, i * 5 + 3, none⟩ = some (.int .i64 xm) ∧ w'.cell? ⟨r, i * 5 + 4, none⟩ = some (.slice xb xbn xbc))) (first | with_reducible exact sI | with_reducible exact hI)
        (first | (go_at_call 27; (with_reducible refine (hch1.out _ sB).mono ?_); rintro e w7 ⟨rfl, hb7⟩; have hb7' := bl_trans sB hb7; have hI := And.intro hb7' (And.intro (hkN.out _ hb7') (hcx.out _ hb7'))))
      have hI1 := hI.1
      have hl7 : W'.heap.size < w7.heap.size := by have := hI1.size; omega
      obtain ⟨p0, p1, p2, p3⟩ := hI.2.1
      clear sI hI sB
      cases B
      · go_wp2_with fail
        go_roundg (l.length - (i + 1))
        case measure => omega
        case rel => exact ⟨i + 1, rfl, by go_num, by omega, Lib.hid (hnx.out trivial), Lib.hid hI1⟩
        
      · have hR := hhit1.out rfl
        replace hR := Lib.hid hR
        go_wp2_with fail
        go_ret
        exact ⟨by rw [hR.out]; rfl, bl_trans hb hI1⟩
    · obtain rfl : i = l.length := by omega
      have hR := Lib.hid (hend.out (fun j hj => hn.out j hj hj))
      clear hcc hch hhit hend
      go_wp2_with fail
      go_ret
      exact ⟨by rw [hR.out]; rfl, bl_trans hb hb1⟩
set_option maxHeartbeats 8000000 in
set_option maxRecDepth 100000 in
theorem NodeIs.and {lo hi r : Nat} {W : World} {l : List (List Value × CM.M)} (hr : RowIs lo hi r l W) (hl : l.length ≤ 100000) (lc : Nat) (hlc : l.length ≤ lc) (sign : List UInt8) (n : Int) (ba : Option Addr) (bn bc : Nat) : NodeIs lo hi (nodeC CM.andW (some ⟨r, 0, none⟩) l.length lc sign n ba bn bc) (fun a b => l.all fun p => p.2 a b) W := by
  refine ⟨hr.1, ⟨_, _, _, _, _, _, _, _, _, rfl⟩, ?_⟩
  intro W' hkp s1 s2 v1 v2 h1 h2
  obtain ⟨W3, hW3, hN, hS1, hS2, hb⟩ := three W' 81 35 35 (nodeC CM.andW (some ⟨r, 0, none⟩) l.length lc sign n ba bn bc) s1.cells s2.cells
  have n0 : W3.cell? ⟨W'.heap.size, 0, none⟩ = _ := hN.cell 0
  have n1 : W3.cell? ⟨W'.heap.size, 1, none⟩ = _ := hN.cell 1
  have n2 : W3.cell? ⟨W'.heap.size, 2, none⟩ = _ := hN.cell 2
  have n3 : W3.cell? ⟨W'.heap.size, 3, none⟩ = _ := hN.cell 3
  have n4 : W3.cell? ⟨W'.heap.size, 4, none⟩ = _ := hN.cell 4
  unfold nodeC at n0 n1 n2 n3 n4 hW3 ⊢
  simp only [List.getElem?_cons_zero, List.getElem?_cons_succ] at n0 n1 n2 n3 n4
  have l0 := hN.lt
  have l1 := hS1.lt
  have l2 := hS2.lt
  have hkN := Lib.hid (fun w' (hb : Below W3.heap.size W3 w') => (⟨(hN.below hb).cell 0, (hN.below hb).cell 1, stLoad_is s1 (hS1.below hb), stLoad_is s2 (hS2.below hb)⟩ : w'.cell? ⟨W'.heap.size, 0, none⟩ = some (strV CM.andW) ∧ w'.cell? ⟨W'.heap.size, 1, none⟩ = some (.slice (some ⟨r, 0, none⟩) l.length lc) ∧ (stLoad ⟨W'.heap.size + 1, 0, none⟩).run Tryz.prog w' = .ok (.agg s1.cells.toArray) w' ∧ (stLoad ⟨W'.heap.size + 1 + 1, 0, none⟩).run Tryz.prog w' = .ok (.agg s2.cells.toArray) w'))
  have hrW := hr.keep hkp
  have hrl : r < W'.heap.size := by have := hrW.1; have := hrW.2.2.1; omega
  have hch := Lib.hid (fun i (hi : i < l.length) w' (hw : Below W3.heap.size W3 w') => (hrW.2.2.2 i hi).1.2.2 w' (KeepI.below (bl_trans hb hw) hrW.1) s1 s2 v1 v2 (h1.below (bl_trans hb hw)) (h2.below (bl_trans hb hw)))
  have hcc := Lib.hid (fun i (hi : i < l.length) => (⟨(hrW.2.2.2 i hi).1.2.1, fun w' (hw : Below W3.heap.size W3 w') j u hu => ((bl_trans hb hw).cell (p := ⟨r, i * 5 + j, none⟩) hrl).trans ((hrW.2.2.2 i hi).2 j u hu)⟩ : _ ∧ _))
  clear hN hS1 hS2 h1 h2 hkp hr hrW
  obtain ⟨C1, hC1⟩ : ∃ C, s1.cells.toArray = C := ⟨_, rfl⟩
  obtain ⟨C2, hC2⟩ : ∃ C, s2.cells.toArray = C := ⟨_, rfl⟩
  rw [hC1, hC2] at hW3 hkN hch
  rw [hC1, hC2]
  replace hC1 := Lib.hid hC1
  replace hC2 := Lib.hid hC2
  replace hW3 := Lib.hid hW3
  show Calls _ _ _ _ (fun e w' => e = .returned (.bool (l.all fun p => p.2 v1 v2)) ∧ Below W'.heap.size W' w')
  have hq0 : (CM.andW == [111, 114]) = false := rfl
  have hend := Lib.hid (fun (h : ∀ i (hi : i < l.length), l[i].2 v1 v2 = true) => (by rw [List.all_eq_true]; intro p hp; obtain ⟨i, hi, rfl⟩ := List.getElem_of_mem hp; simp [h i hi] : (l.all fun p => p.2 v1 v2) = true))
  have hhit := Lib.hid (fun i (hi : i < l.length) (h : l[i].2 v1 v2 = false) => (by rw [List.all_eq_false]; exact ⟨_, List.getElem_mem hi, by simp [h]⟩ : (l.all fun p => p.2 v1 v2) = false))
  generalize (l.all fun p => p.2 v1 v2) = RR at *
  go_enter Tryz.func27, Tryz.ntmps27
  go_upto_region 1 with fail
  rw [hW3.out]
  go_wp2_with fail
  go_loopg [7] l.length (fun gh v wr => ∃ i : Nat, gh = l.length - i ∧ v = .int .i64 (i : Int) ∧ i ≤ l.length ∧ Hid (∀ j (hj : j < l.length), j < i → l[j].2 v1 v2 = true) ∧ Hid (Below W3.heap.size W3 wr))
  case atStart => exact ⟨0, by omega, rfl, Nat.zero_le _, Lib.hid (fun j _ h => absurd h (Nat.not_lt_zero _)), Lib.hid (Below.refl _ _)⟩
  case round =>
    obtain ⟨i, rfl, rfl, hi, hn, hbr⟩ := hrel
    obtain ⟨wo, hwo⟩ : ∃ wo : World, wo = wr := ⟨_, rfl⟩
    subst hwo
    have hb1 := hbr.out
    obtain ⟨m0, m1, m2, m3⟩ := hkN.out _ hb1
    have hlw : W'.heap.size < wo.heap.size := by have := hb1.size; omega
    have hrw : r < wo.heap.size := by have := hb1.size; have := hb.size; omega
    by_cases hlt : i < l.length
    · have z0 : (0 : Int) ≤ (i : Int) := by omega
      have z1 : (i : Int) < (l.length : Int) := by omega
      have sB : Below W3.heap.size W3 wo.drew := bl_drew hb1
      obtain ⟨⟨xw, xa, xn, xc, xs, xm, xb, xbn, xbc, hve⟩, hxc⟩ := hcc.out i hlt
      have hch1 := Lib.hid (hch.out i hlt)
      have hhit1 := Lib.hid (hhit.out i hlt)
      have hnx := Lib.hid (fun (h : l[i].2 v1 v2 = true) j (hj : j < l.length) (hji : j < i + 1) => (by
        by_cases e : j = i
        · subst e; exact h
        · exact hn.out j hj (by omega) : l[j].2 v1 v2 = true))
      obtain ⟨B, hB⟩ : ∃ B, l[i].2 v1 v2 = B := ⟨_, rfl⟩
      rw [hB] at hch1 hhit1 hnx
      rw [hve] at hch1 hxc
      replace hB := Lib.hid hB
      replace hve := Lib.hid hve
      have hcx := Lib.hid (fun w' (hw : Below W3.heap.size W3 w') => (⟨by have := hxc w' hw 0 _ rfl; rwa [Nat.add_zero] at this, hxc w' hw 1 _ rfl, hxc w' hw 2 _ rfl, hxc w' hw 3 _ rfl, hxc w' hw 4 _ rfl⟩ : w'.cell? ⟨r, i * 5, none⟩ = some (strV xw) ∧ w'.cell? ⟨r, i * 5 + 1, none⟩ = some (.slice xa xn xc) ∧ w'.cell? ⟨r, i * 5 + 2, none⟩ = some (strV xs) ∧ w'.cell? ⟨r, i * 5 + 3, none⟩ = some (.int .i64 xm) ∧ w'.cell? ⟨r, i * 5 + 4, none⟩ = some (.slice xb xbn xbc)))
      unfold nodeC at hch1
      have sI := And.intro sB (And.intro (hkN.out _ sB) (hcx.out _ sB))
      have hwi : IntKind.i64.wrap ((i : Int) + 1) = (i : Int) + 1 := IntWalk.i64_in _ (by omega)
      clear hxc hch hhit hend hcc
      replace hbr := Lib.hid hbr
      go_upto_region 7 with fail
      go_region_held3 (fun w' => Below W3.heap.size W3 w' ∧ (w'.cell? ⟨W'.heap.size, 0, none⟩ = some (strV CM.andW) ∧ w'.cell? ⟨W'.heap.size, 1, none⟩ = some (.slice (some ⟨r, 0, none⟩) l.length lc) ∧ (stLoad ⟨W'.heap.size + 1, 0, none⟩).run Tryz.prog w' = .ok (.agg C1) w' ∧ (stLoad ⟨W'.heap.size + 1 + 1, 0, none⟩).run Tryz.prog w' = .ok (.agg C2) w') ∧ (w'.cell? ⟨r, i * 5, none⟩ = some (strV xw) ∧ w'.cell? ⟨r, i * 5 + 1, none⟩ = some (.slice xa xn xc) ∧ w'.cell? ⟨r, i * 5 + 2, none⟩ = some (strV xs) ∧ w'.cell? ⟨r, i * 5 + 3, none⟩ = some (.int .i64 xm) ∧ w'.cell? ⟨r, i * 5 + 4, none⟩ = some (.slice xb xbn xbc))) (first | with_reducible exact sI | with_reducible exact hI)
        (first | (go_at_call 27; (with_reducible refine (hch1.out _ sB).mono ?_); rintro e w7 ⟨rfl, hb7⟩; have hb7' := bl_trans sB hb7; have hI := And.intro hb7' (And.intro (hkN.out _ hb7') (hcx.out _ hb7'))))
      have hI1 := hI.1
      have hl7 : W'.heap.size < w7.heap.size := by have := hI1.size; omega
      obtain ⟨p0, p1, p2, p3⟩ := hI.2.1
      clear sI hI sB
      cases B
      · have hR := hhit1.out rfl
        replace hR := Lib.hid hR
        go_wp2_with fail
        go_ret
        exact ⟨by rw [hR.out]; rfl, bl_trans hb hI1⟩
      · go_wp2_with fail
        go_roundg (l.length - (i + 1))
        case measure => omega
        case rel => exact ⟨i + 1, rfl, by go_num, by omega, Lib.hid (hnx.out trivial), Lib.hid hI1⟩
        
    · obtain rfl : i = l.length := by omega
      have hR := Lib.hid (hend.out (fun j hj => hn.out j hj hj))
      clear hcc hch hhit hend
      go_wp2_with fail
      go_ret
      exact ⟨by rw [hR.out]; rfl, bl_trans hb hb1⟩
end Go.Proofs.YtcjcflmnghhbaaaGreat
