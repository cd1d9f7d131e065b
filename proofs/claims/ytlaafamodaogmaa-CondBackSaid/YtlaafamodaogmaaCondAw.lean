/-
  awake of chapter 27.
  Conditions: as each theorem states them.
-/
import Derived.Test.YtlaafamodaogmaaCondJ
import Derived.Lib.SlBytesConst
namespace Go.Proofs.Ytlaafamodaogmaa
open Go.RowKit
set_option linter.unusedVariables false
set_option linter.unusedSimpArgs false
open CM (Sv)
def awT : List UInt8 := [108, 105, 110, 101, 32, 62, 32, 50, 32, 97, 110, 100, 32, 110, 111, 116, 32, 112, 97, 116, 116, 101, 114, 110, 32, 104, 97, 115, 32, 34, 97, 34]
abbrev n3 : Sl3 := ⟨none, 0, 0⟩
/-- the empty state -/
def z0 : StC := ⟨n3, n3, false, 0, false, 0, 0, 0, 0, 0, n3, n3, false, n3, false, 0, 0, 0, 0, 0, false, false, false, n3, n3, n3, n3⟩
def z3 (g : Nat) : StC := { z0 with pat := ⟨some ⟨g, 0, none⟩, 1, 1⟩, line := 3 }
def v0 : Sv := ⟨0, 0, 0, 0, [], [], [], [], false, false, false, false, 0, 0⟩
def v3 : Sv := { v0 with line := 3, pattern := [98] }
theorem awS : (match CM.parseS awT with | .ok f => f v0 v3 && !f v3 v0 | .error _ => false) = true := by kernel_rfl
theorem aw_phi : ∃ phi, CM.parseS awT = .ok phi ∧ phi v0 v3 = true ∧ phi v3 v0 = false := by
  have h := awS
  cases hp : CM.parseS awT with
  | error e => rw [hp] at h; simp at h
  | ok f =>
    rw [hp] at h
    simp only [Bool.and_eq_true, Bool.not_eq_true'] at h
    exact ⟨f, rfl, h.1, h.2⟩
theorem TxOk.nil (w : World) : TxOk w n3 [] := ⟨rfl, Nat.le_refl _, fun h => by simp at h, by simp⟩
theorem z0_sv (w : World) : StSv w z0 v0 := ⟨rfl, rfl, rfl, rfl, .nil w, .nil w, .nil w, .nil w, rfl, rfl, rfl, rfl, rfl, rfl⟩
theorem z3_sv {w : World} {g : Nat} (h : w.cell? ⟨g, 0, none⟩ = some (.int .u8 98)) (hg : g < w.heap.size) : StSv w (z3 g) v3 :=
  ⟨rfl, rfl, rfl, rfl, ⟨rfl, Nat.le_refl _, fun _ => ⟨g, 0, rfl, hg, fun i hi => by
    have : i = 0 := by simp only [v3, List.length_cons, List.length_nil] at hi; omega
    subst this; exact h⟩, by simp [v3]⟩, .nil w, .nil w, .nil w, rfl, rfl, rfl, rfl, rfl, rfl⟩
theorem aw_call1 {W : World} {c g : Nat} {phi : CM.M} (h : CondIs W c awT phi) (hc : W.cell? ⟨g, 0, none⟩ = some (.int .u8 98)) (hg : g < W.heap.size) (hm : MxAt W) :
    Calls Try.prog 12 #[.pointer (some ⟨c, 0, none⟩), .agg #[.slice none 0 0, .slice none 0 0, .bool false, .int .i64 0, .bool false, .int .i64 0, .int .i64 0, .int .i64 0, .int .i64 0, .int .i64 0, .slice none 0 0, .slice none 0 0, .bool false, .slice none 0 0, .bool false, .int .i64 0, .int .i64 0, .int .i64 0, .int .i64 0, .int .i64 0, .bool false, .bool false, .bool false, .slice none 0 0, .slice none 0 0, .slice none 0 0, .slice none 0 0], .agg #[.slice (some ⟨g, 0, none⟩) 1 1, .slice none 0 0, .bool false, .int .i64 3, .bool false, .int .i64 0, .int .i64 0, .int .i64 0, .int .i64 0, .int .i64 0, .slice none 0 0, .slice none 0 0, .bool false, .slice none 0 0, .bool false, .int .i64 0, .int .i64 0, .int .i64 0, .int .i64 0, .int .i64 0, .bool false, .bool false, .bool false, .slice none 0 0, .slice none 0 0, .slice none 0 0, .slice none 0 0]] W fun e w' => e = .returned (.bool (phi v0 v3)) ∧ Below W.heap.size W w' := holds_any (s1 := z0) (s2 := z3 g) h (z0_sv W) (z3_sv hc hg) hm
theorem aw_call2 {W : World} {c g : Nat} {phi : CM.M} (h : CondIs W c awT phi) (hc : W.cell? ⟨g, 0, none⟩ = some (.int .u8 98)) (hg : g < W.heap.size) (hm : MxAt W) :
    Calls Try.prog 12 #[.pointer (some ⟨c, 0, none⟩), .agg #[.slice (some ⟨g, 0, none⟩) 1 1, .slice none 0 0, .bool false, .int .i64 3, .bool false, .int .i64 0, .int .i64 0, .int .i64 0, .int .i64 0, .int .i64 0, .slice none 0 0, .slice none 0 0, .bool false, .slice none 0 0, .bool false, .int .i64 0, .int .i64 0, .int .i64 0, .int .i64 0, .int .i64 0, .bool false, .bool false, .bool false, .slice none 0 0, .slice none 0 0, .slice none 0 0, .slice none 0 0], .agg #[.slice none 0 0, .slice none 0 0, .bool false, .int .i64 0, .bool false, .int .i64 0, .int .i64 0, .int .i64 0, .int .i64 0, .int .i64 0, .slice none 0 0, .slice none 0 0, .bool false, .slice none 0 0, .bool false, .int .i64 0, .int .i64 0, .int .i64 0, .int .i64 0, .int .i64 0, .bool false, .bool false, .bool false, .slice none 0 0, .slice none 0 0, .slice none 0 0, .slice none 0 0]] W fun e w' => e = .returned (.bool (phi v3 v0)) ∧ Below W.heap.size W w' := holds_any (s1 := z3 g) (s2 := z0) h (z3_sv hc hg) (z0_sv W) hm
noncomputable def stLoad (a : Addr) : Sem Value := loadVar 34 a
theorem load_st (a : Addr) : loadVar 34 a = stLoad a := rfl
theorem stLoad_is (s : StC) {w : World} {g : Nat} (h : w.heap[g]? = some (.cells s.cells.toArray 34 (0, 0))) : (stLoad ⟨g, 0, none⟩).run Try.prog w = .ok (.agg s.cells.toArray) w :=
  run_loadVar_row w g 34 34 s.cells.toArray (0, 0) _ h Try.underlying34 rfl (by kernel_rfl)
attribute [local go_sem ↓] load_st
set_option maxHeartbeats 4000000 in
set_option maxRecDepth 100000 in
theorem awake27 (w : World) (hm : MxAt w) : Calls Try.prog 10 #[] w fun e w' => e = .returned (.bool true) ∧ Below w.heap.size w w' := by
  obtain ⟨phi, hp, ht, hf⟩ := aw_phi
  have hpa := cparse_any awT w
  unfold ParseIs at hpa
  rw [hp] at hpa
  unfold awT at hpa
  replace hpa := Lib.hid hpa
  have kc := fun (w : World) (C : Array Value) (n c g : Nat) (hg : g = w.heap.size) => (by
    subst hg
    exact Lib.run_convert_bytes_const (P := Try.prog) w 22 5 C n c Try.underlying22 Try.underlying5 : (convert 22 22 (.slice (some ⟨g, 0, none⟩) n c)).run Try.prog (w.alloc (.cells C 5)) = .ok (.slice (some ⟨g, 0, none⟩) n c) (w.alloc (.cells C 5 (C.size, C.size + 1))))
  go_enter Try.func10, Try.ntmps10
  go_upto_region 5 with (go_at_call 11; refine hpa.out.mono ?_; rintro e w2 ⟨c, rfl, hC, hc, hb2⟩; replace hC := Lib.hid hC; replace hb2 := Lib.hid hb2)
  obtain ⟨W4, hW4⟩ : ∃ W4, (w2.alloc (.cells #[.slice (some ⟨w2.heap.size + 1, 0, none⟩) 1 1, .slice none 0 0, .bool false, .int .i64 3, .bool false, .int .i64 0, .int .i64 0, .int .i64 0, .int .i64 0, .int .i64 0, .slice none 0 0, .slice none 0 0, .bool false, .slice none 0 0, .bool false, .int .i64 0, .int .i64 0, .int .i64 0, .int .i64 0, .int .i64 0, .bool false, .bool false, .bool false, .slice none 0 0, .slice none 0 0, .slice none 0 0, .slice none 0 0] 34)).alloc (.cells #[.int .u8 98] 5 (1, 2)) = W4 := ⟨_, rfl⟩
  rw [hW4]
  have hb4 : Below w2.heap.size w2 W4 := by rw [← hW4]; exact bl_alloc (bl_alloc (Below.refl _ _) _) _
  have hk4 : Blk W4 w2.heap.size 34 (z3 (w2.heap.size + 1)).cells := by rw [← hW4]; exact (Blk.new w2 34 (z3 (w2.heap.size + 1)).cells).alloc _
  have hc4 : W4.cell? ⟨w2.heap.size + 1, 0, none⟩ = some (.int .u8 98) := by
    have e : W4.heap[w2.heap.size + 1]? = some (.cells #[.int .u8 98] 5 (1, 2)) := by
      have e0 := heap_alloc_new (w2.alloc (.cells (z3 (w2.heap.size + 1)).cells.toArray 34)) (.cells #[.int .u8 98] 5 (1, 2))
      rw [size_alloc] at e0
      rw [← hW4]
      exact e0
    simp only [World.cell?, e]
    rfl
  have hl4 : w2.heap.size + 1 < W4.heap.size := by rw [← hW4]; simp
  have L4 := stLoad_is (z3 (w2.heap.size + 1)) hk4
  have hC4 := hC.out.below hb4
  have hm4 := hm.below (bl_trans hb2.out hb4)
  have h1 := Lib.hid (aw_call1 hC4 hc4 hl4 hm4)
  have hL5 := Lib.hid (fun w5 (hb : Below W4.heap.size W4 w5) => stLoad_is (z3 (w2.heap.size + 1)) (hk4.below hb))
  have h2 := Lib.hid (fun w5 (hb : Below W4.heap.size W4 w5) => aw_call2 (hC4.below hb) ((hb.cell (p := ⟨w2.heap.size + 1, 0, none⟩) hl4).trans hc4) (Nat.lt_of_lt_of_le hl4 hb.size) (hm4.below hb))
  rw [ht] at h1
  rw [hf] at h2
  have hbw := Lib.hid (bl_trans hb2.out hb4)
  clear hW4 hb4 hk4 hc4 hC4 hm4 hC hm hp ht hf kc
  simp only [StC.cells, z3, z0] at L4 hL5
  go_wp2_with (first
    | (go_at_call 12; first
      | ((with_reducible refine h1.out.mono ?_); rintro e w5 ⟨rfl, hb5⟩; have L5 := hL5.out _ hb5)
      | ((with_reducible refine (h2.out _ hb5).mono ?_); rintro e w6 ⟨rfl, hb6⟩)))
  go_ret
  exact ⟨rfl, bl_trans hbw.out (bl_trans hb5 hb6)⟩
end Go.Proofs.Ytlaafamodaogmaa
