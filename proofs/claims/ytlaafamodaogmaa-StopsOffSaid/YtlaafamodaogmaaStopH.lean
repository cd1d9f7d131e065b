/-
  stop.hits, Stops.Hits; of chapter 28.
  Conditions: as each theorem states them.
-/
import Derived.Test.YtlaafamodaogmaaStopG
import Derived.Test.YtlaafamodaogmaaCondAw
namespace Go.Proofs.Ytlaafamodaogmaa
open Go.RowKit
set_option linter.unusedVariables false
set_option linter.unusedSimpArgs false
attribute [local go_sem ↓] load_st
open CM (Sv)
/-- does a breakpoint stop? -/
def hitS (x : Stp) (was now : Sv) : Bool :=
  if x.off then false else if x.kind = 0 then now.phase == 1 && now.pc == x.n else if x.kind = 1 then now.line == x.n && was.line != x.n else match x.phi with
    | none => false
    | some phi => phi was now
set_option maxHeartbeats 4000000 in
set_option maxRecDepth 100000 in
theorem hits_one {W : World} {x : Stp} {s1 s2 : StC} {v1 v2 : Sv} (h1 : StSv W s1 v1) (h2 : StSv W s2 v2) (hm : MxAt W) (hx : ∀ cb lo hi phi, x.c = some (cb, lo, hi, phi) → ∃ t, CondIs W cb t phi) :
    Calls Try.prog 47 #[.agg x.cells.toArray, .agg s1.cells.toArray, .agg s2.cells.toArray] W fun e w' => e = .returned (.bool (hitS x v1 v2)) ∧ Below W.heap.size W w' := by
  have hB1 : Blk (((W.alloc (.cells x.cells.toArray 103)).alloc (.cells s1.cells.toArray 34)).alloc (.cells s2.cells.toArray 34)) W.heap.size 103 x.cells := ((Blk.new W _ _).alloc _).alloc _
  have hB2 : Blk (((W.alloc (.cells x.cells.toArray 103)).alloc (.cells s1.cells.toArray 34)).alloc (.cells s2.cells.toArray 34)) (W.heap.size + 1) 34 s1.cells := by
    have := (Blk.new (W.alloc (.cells x.cells.toArray 103)) 34 s1.cells).alloc (.cells s2.cells.toArray 34)
    rw [size_alloc] at this; exact this
  have hB3 : Blk (((W.alloc (.cells x.cells.toArray 103)).alloc (.cells s1.cells.toArray 34)).alloc (.cells s2.cells.toArray 34)) (W.heap.size + 1 + 1) 34 s2.cells := by
    have := Blk.new ((W.alloc (.cells x.cells.toArray 103)).alloc (.cells s1.cells.toArray 34)) 34 s2.cells
    rw [size_alloc, size_alloc] at this; exact this
  have hb : Below W.heap.size W (((W.alloc (.cells x.cells.toArray 103)).alloc (.cells s1.cells.toArray 34)).alloc (.cells s2.cells.toArray 34)) := bl_alloc (bl_alloc (bl_alloc (Below.refl _ _) _) _) _
  obtain ⟨C1, hC1⟩ : ∃ C, s1.cells.toArray = C := ⟨_, rfl⟩
  obtain ⟨C2, hC2⟩ : ∃ C, s2.cells.toArray = C := ⟨_, rfl⟩
  obtain ⟨CX, hCX⟩ : ∃ C, x.cells.toArray = C := ⟨_, rfl⟩
  obtain ⟨W3, hW3⟩ : ∃ W3, ((W.alloc (.cells x.cells.toArray 103)).alloc (.cells s1.cells.toArray 34)).alloc (.cells s2.cells.toArray 34) = W3 := ⟨_, rfl⟩
  rw [hW3] at hB1 hB2 hB3 hb
  have x0 : W3.cell? ⟨W.heap.size, 4, none⟩ = some (.bool x.off) := hB1.cell 4
  have x1 : W3.cell? ⟨W.heap.size, 1, none⟩ = some (.int .i64 x.kind) := hB1.cell 1
  have x2 : W3.cell? ⟨W.heap.size, 2, none⟩ = some (.int .i64 x.n) := hB1.cell 2
  have x5 : W3.cell? ⟨W.heap.size, 5, none⟩ = some (.pointer x.ptr) := hB1.cell 5
  have y3 : W3.cell? ⟨W.heap.size + 1, 3, none⟩ = some (.int .i64 s1.line) := hB2.cell 3
  have z3 : W3.cell? ⟨W.heap.size + 1 + 1, 3, none⟩ = some (.int .i64 s2.line) := hB3.cell 3
  have z15 : W3.cell? ⟨W.heap.size + 1 + 1, 15, none⟩ = some (.int .i64 s2.phase) := hB3.cell 15
  have z16 : W3.cell? ⟨W.heap.size + 1 + 1, 16, none⟩ = some (.int .i64 s2.pc) := hB3.cell 16
  have L1 := stLoad_is s1 hB2
  have L2 := stLoad_is s2 hB3
  rw [hC1] at L1
  rw [hC2] at L2
  have l1 := hB1.lt
  have l2 := hB2.lt
  have l3 := hB3.lt
  have hnil := Lib.hid (holds_nil s1 s2 W3)
  rw [hC1, hC2] at hnil
  have hyes := Lib.hid (fun c t phi (hc : CondIs W3 c t phi) => holds_any hc (h1.below hb) (h2.below hb) (hm.below hb))
  rw [hC1, hC2] at hyes
  rw [hC1, hC2, hCX] at hW3
  replace hx := Lib.hid (fun cb lo hi phi e => (hx cb lo hi phi e).imp fun t h => h.below hb)
  have e1 : v1.line = s1.line := h1.line
  have e2 : v2.line = s2.line := h2.line
  have e3 : v2.phase = s2.phase := h2.phase
  have e4 : v2.pc = s2.pc := h2.pc
  replace hb := Lib.hid hb
  rw [hC1, hC2, hCX]
  clear hC1 hC2 hCX hB1 hB2 hB3 h1 h2 hm
  have hpost := Lib.hid (fun (B : Bool) (w' : World) (h1 : hitS x v1 v2 = B) (h2 : Below W3.heap.size W3 w') => (⟨by rw [h1], bl_trans hb.out h2⟩ : Ending.returned (.bool B) = .returned (.bool (hitS x v1 v2)) ∧ Below W.heap.size W w'))
  replace hW3 := Lib.hid hW3
  have hh : ∀ B, (if x.off then false else if x.kind = 0 then v2.phase == 1 && v2.pc == x.n else if x.kind = 1 then v2.line == x.n && v1.line != x.n else match x.phi with | none => false | some phi => phi v1 v2) = B → hitS x v1 v2 = B := fun B h => h
  rw [e1, e2, e3, e4] at hh
  replace hh := Lib.hid hh
  clear e1 e2 e3 e4
  have q0 : Below W3.heap.size W3 W3 := Below.refl _ _
  generalize hitS x v1 v2 = H at *
  unfold Stp.ptr at x5
  unfold Stp.phi at hh
  obtain ⟨id, kind, n, cond, off, c⟩ := x
  simp only at *
  cases off with
  | true =>
    have hr := Lib.hid (hpost.out false W3 (hh.out false (by simp)) q0)
    clear hyes hnil hx hh hpost
    go_enter Try.func47, Try.ntmps47
    go_upto_block 0 with fail
    rw [hW3.out]
    go_wp2_with fail
    go_ret
    exact hr.out
  | false =>
    by_cases k0 : kind = 0
    · subst k0
      by_cases hp : s2.phase = 1
      · have hr := Lib.hid (hpost.out (s2.pc == n) W3 (hh.out _ (by simp [hp])) q0)
        clear hyes hnil hx hh hpost
        go_enter Try.func47, Try.ntmps47
        go_upto_block 0 with fail
        rw [hW3.out]
        go_wp2_with fail
        go_ret
        exact hr.out
      · have hq : (s2.phase == 1) = false := by simpa using hp
        have hr := Lib.hid (hpost.out false W3 (hh.out _ (by simp [hp])) q0)
        clear hyes hnil hx hh hpost hp
        go_enter Try.func47, Try.ntmps47
        go_upto_block 0 with fail
        rw [hW3.out]
        go_wp2_with fail
        go_ret
        exact hr.out
    · have hq0 : (kind == 0) = false := by simpa using k0
      by_cases k1 : kind = 1
      · subst k1
        by_cases hp : s2.line = n
        · subst hp
          have hr := Lib.hid (hpost.out (s1.line != s2.line) W3 (hh.out _ (by simp)) q0)
          clear hyes hnil hx hh hpost
          go_enter Try.func47, Try.ntmps47
          go_upto_block 0 with fail
          rw [hW3.out]
          go_wp2_with fail
          go_ret
          exact hr.out
        · have hq : (s2.line == n) = false := by simpa using hp
          have hr := Lib.hid (hpost.out false W3 (hh.out _ (by simp [hp])) q0)
          clear hyes hnil hx hh hpost hp
          go_enter Try.func47, Try.ntmps47
          go_upto_block 0 with fail
          rw [hW3.out]
          go_wp2_with fail
          go_ret
          exact hr.out
      · have hq1 : (kind == 1) = false := by simpa using k1
        have hh2 := Lib.hid (fun B (h : (match Option.map (fun t => t.2.2.2) c with | none => false | some phi => phi v1 v2) = B) => hh.out B (by rw [if_neg (by simp), if_neg k0, if_neg k1]; exact h))
        clear hh k0 k1
        cases c with
        | none =>
          have hr := Lib.hid (fun w' (h : Below W3.heap.size W3 w') => hpost.out false w' (hh2.out _ rfl) h)
          simp only [Option.map_none] at x5
          clear hyes hx hh2 hpost
          go_enter Try.func47, Try.ntmps47
          go_upto_block 0 with fail
          rw [hW3.out]
          go_wp2_with (go_at_call 12; (with_reducible refine hnil.out.mono ?_); rintro e w4 ⟨rfl, hb4⟩)
          go_ret
          exact hr.out _ hb4
        | some c =>
          obtain ⟨cb, lo, hi, phi⟩ := c
          obtain ⟨t, hc⟩ := hx.out cb lo hi phi rfl
          have hcl := Lib.hid (hyes.out cb t phi hc)
          have hr := Lib.hid (fun w' (h : Below W3.heap.size W3 w') => hpost.out (phi v1 v2) w' (hh2.out _ rfl) h)
          simp only [Option.map_some] at x5
          clear hyes hx hh2 hpost hnil hc
          go_enter Try.func47, Try.ntmps47
          go_upto_block 0 with fail
          rw [hW3.out]
          go_wp2_with (go_at_call 12; (with_reducible refine hcl.out.mono ?_); rintro e w4 ⟨rfl, hb4⟩)
          go_ret
          exact hr.out _ hb4
end Go.Proofs.Ytlaafamodaogmaa
