/-
  slices.Clone at the rows of a state, and the reference's Copy of bytes; of chapter 20. (Printed by gen_cloneg.py.)
  Conditions: as each theorem states them.
-/
import Derived.Test.YtfidmpkblmebeaaCopyB
import Derived.Test.YtfidmpkblmebeaaAppR
import Derived.Laws.OwnMore
namespace Go.Proofs.Ytfidmpkblmebeaa
open Go.RowKit
set_option linter.unusedVariables false
set_option linter.unusedSimpArgs false
theorem infoByteB : (Try.prog.info? 5).map (fun i => (i.zero, i.size, i.bytes)) = some (some (.int .u8 0), 1, 1) := by kernel_rfl
/-- a row that is read: n elements of k cells -/
structure RowSrc (w : World) (a : Option Addr) (n c k : Nat) (cs : List Value) : Prop where
  src : SrcAt w (.slice a n c) n cs
  len : cs.length = n * k
  one : ∀ u ∈ cs, u.oneCell' = true
  small : n ≤ 1000000000000
theorem info_parts' {P : Program} {t : TypeId} {z : Value} {s b : Nat} (h : (P.info? t).map (fun i => (i.zero, i.size, i.bytes)) = some (some z, s, b)) : ∃ i, P.info? t = some i ∧ i.zero = some z ∧ i.size = s ∧ i.bytes = b := by
  cases hi : P.info? t with
  | none => rw [hi] at h; cases h
  | some i => rw [hi] at h; simp at h; exact ⟨i, rfl, h.1, h.2.1, h.2.2⟩

theorem info_bytes : (Try.prog.info? 5).map (fun i => (i.zero, i.size, i.bytes)) = some (some (.int .u8 0), 1, 1) := by kernel_rfl
set_option maxHeartbeats 2000000 in
set_option maxRecDepth 100000 in
theorem clone_bytes (w : World) (a : Option Addr) (n c : Nat) (cs : List Value) (h : RowSrc w a n c 1 cs) :
    Calls Try.prog 29 #[.slice a n c] w fun e w' => ∃ v', e = .returned v' ∧ w'.ownsRow w.heap.size 5 1 v' n cs ∧ Below w.heap.size w w' := by
  have q22 : ∀ (w : World) (a : Option Addr) (n c n' c' : Nat), (binOp .eql 32 (.slice a n c) (.slice none n' c')).run Try.prog w = .ok (.bool a.isNone) w := fun w a n c n' c' => Lib.run_eql_slice_nil w _ _ a n c n' c' Try.underlying32
  obtain ⟨i0, hi, hz0, hz1, hz2⟩ := info_parts' info_bytes
  have hsrc := Lib.hid (h.src.below (bl_alloc (Below.refl w.heap.size w) (.cells #[] 5)))
  have hown := Lib.hid (World.ownsRow_made (base := w.heap.size) (e := 5) (size := 1) w #[] 0 (Nat.le_refl _) (by decide) rfl)
  have hsm := h.small
  cases a with
  | none =>
    go_enter Try.func29, Try.ntmps29
    go_wp2_with fail
    go_ret
    obtain ⟨a, c', he, h0, _⟩ := h.src
    cases he
    obtain rfl := h0 rfl
    have hl := h.len
    rw [Nat.zero_mul] at hl
    obtain rfl := List.eq_nil_of_length_eq_zero hl
    exact ⟨_, rfl, World.ownsRow_nil _ _ _ _, Below.refl _ _⟩
  | some ad =>
    go_enter Try.func29, Try.ntmps29
    go_wp2_with (at_builtin; refine wpList_append_src _ rfl (.tmp 5) (.tmp 6) 32 rfl w.heap.size 5 i0 (.int .u8 0) 1 1 Try.underlying32 hi hz0 hz1 hz2 rfl (by decide) _ _ _ rfl hown.out _ n _ rfl hsrc.out h.len h.one (by unfold maxLen; omega) (by omega) (by simp) ?_; intro v1 w1 hown1 hgrow1)
    all_goals go_ret
    all_goals exact ⟨_, rfl, by simpa using hown1, (bl_alloc (Below.refl _ _) _).grown hgrow1 (by simp) (fun j hj => (hown.out.lt j hj).1)⟩

theorem info_bools : (Try.prog.info? 4).map (fun i => (i.zero, i.size, i.bytes)) = some (some (.bool false), 1, 1) := by kernel_rfl
set_option maxHeartbeats 2000000 in
set_option maxRecDepth 100000 in
theorem clone_bools (w : World) (a : Option Addr) (n c : Nat) (cs : List Value) (h : RowSrc w a n c 1 cs) :
    Calls Try.prog 30 #[.slice a n c] w fun e w' => ∃ v', e = .returned v' ∧ w'.ownsRow w.heap.size 4 1 v' n cs ∧ Below w.heap.size w w' := by
  have q22 : ∀ (w : World) (a : Option Addr) (n c n' c' : Nat), (binOp .eql 39 (.slice a n c) (.slice none n' c')).run Try.prog w = .ok (.bool a.isNone) w := fun w a n c n' c' => Lib.run_eql_slice_nil w _ _ a n c n' c' Try.underlying39
  obtain ⟨i0, hi, hz0, hz1, hz2⟩ := info_parts' info_bools
  have hsrc := Lib.hid (h.src.below (bl_alloc (Below.refl w.heap.size w) (.cells #[] 4)))
  have hown := Lib.hid (World.ownsRow_made (base := w.heap.size) (e := 4) (size := 1) w #[] 0 (Nat.le_refl _) (by decide) rfl)
  have hsm := h.small
  cases a with
  | none =>
    go_enter Try.func30, Try.ntmps30
    go_wp2_with fail
    go_ret
    obtain ⟨a, c', he, h0, _⟩ := h.src
    cases he
    obtain rfl := h0 rfl
    have hl := h.len
    rw [Nat.zero_mul] at hl
    obtain rfl := List.eq_nil_of_length_eq_zero hl
    exact ⟨_, rfl, World.ownsRow_nil _ _ _ _, Below.refl _ _⟩
  | some ad =>
    go_enter Try.func30, Try.ntmps30
    go_wp2_with (at_builtin; refine wpList_append_src _ rfl (.tmp 5) (.tmp 6) 39 rfl w.heap.size 4 i0 (.bool false) 1 1 Try.underlying39 hi hz0 hz1 hz2 rfl (by decide) _ _ _ rfl hown.out _ n _ rfl hsrc.out h.len h.one (by unfold maxLen; omega) (by omega) (by simp) ?_; intro v1 w1 hown1 hgrow1)
    all_goals go_ret
    all_goals exact ⟨_, rfl, by simpa using hown1, (bl_alloc (Below.refl _ _) _).grown hgrow1 (by simp) (fun j hj => (hown.out.lt j hj).1)⟩

theorem info_waits : (Try.prog.info? 63).map (fun i => (i.zero, i.size, i.bytes)) = some (some (.agg #[.int .i64 0, .slice none 0 0]), 2, 32) := by kernel_rfl
set_option maxHeartbeats 2000000 in
set_option maxRecDepth 100000 in
theorem clone_waits (w : World) (a : Option Addr) (n c : Nat) (cs : List Value) (h : RowSrc w a n c 2 cs) :
    Calls Try.prog 31 #[.slice a n c] w fun e w' => ∃ v', e = .returned v' ∧ w'.ownsRow w.heap.size 63 2 v' n cs ∧ Below w.heap.size w w' := by
  have q22 : ∀ (w : World) (a : Option Addr) (n c n' c' : Nat), (binOp .eql 40 (.slice a n c) (.slice none n' c')).run Try.prog w = .ok (.bool a.isNone) w := fun w a n c n' c' => Lib.run_eql_slice_nil w _ _ a n c n' c' Try.underlying40
  obtain ⟨i0, hi, hz0, hz1, hz2⟩ := info_parts' info_waits
  have hsrc := Lib.hid (h.src.below (bl_alloc (Below.refl w.heap.size w) (.cells #[] 63)))
  have hown := Lib.hid (World.ownsRow_made (base := w.heap.size) (e := 63) (size := 2) w #[] 0 (Nat.le_refl _) (by decide) rfl)
  have hsm := h.small
  cases a with
  | none =>
    go_enter Try.func31, Try.ntmps31
    go_wp2_with fail
    go_ret
    obtain ⟨a, c', he, h0, _⟩ := h.src
    cases he
    obtain rfl := h0 rfl
    have hl := h.len
    rw [Nat.zero_mul] at hl
    obtain rfl := List.eq_nil_of_length_eq_zero hl
    exact ⟨_, rfl, World.ownsRow_nil _ _ _ _, Below.refl _ _⟩
  | some ad =>
    go_enter Try.func31, Try.ntmps31
    go_wp2_with (at_builtin; refine wpList_append_src _ rfl (.tmp 5) (.tmp 6) 40 rfl w.heap.size 63 i0 (.agg #[.int .i64 0, .slice none 0 0]) 2 32 Try.underlying40 hi hz0 hz1 hz2 rfl (by decide) _ _ _ rfl hown.out _ n _ rfl hsrc.out h.len h.one (by unfold maxLen; omega) (by omega) (by simp) ?_; intro v1 w1 hown1 hgrow1)
    all_goals go_ret
    all_goals exact ⟨_, rfl, by simpa using hown1, (bl_alloc (Below.refl _ _) _).grown hgrow1 (by simp) (fun j hj => (hown.out.lt j hj).1)⟩

theorem info_files : (Try.prog.info? 65).map (fun i => (i.zero, i.size, i.bytes)) = some (some (.agg #[.string ⟨#[]⟩, .slice none 0 0]), 2, 40) := by kernel_rfl
set_option maxHeartbeats 2000000 in
set_option maxRecDepth 100000 in
theorem clone_files (w : World) (a : Option Addr) (n c : Nat) (cs : List Value) (h : RowSrc w a n c 2 cs) :
    Calls Try.prog 42 #[.slice a n c] w fun e w' => ∃ v', e = .returned v' ∧ w'.ownsRow w.heap.size 65 2 v' n cs ∧ Below w.heap.size w w' := by
  have q22 : ∀ (w : World) (a : Option Addr) (n c n' c' : Nat), (binOp .eql 41 (.slice a n c) (.slice none n' c')).run Try.prog w = .ok (.bool a.isNone) w := fun w a n c n' c' => Lib.run_eql_slice_nil w _ _ a n c n' c' Try.underlying41
  obtain ⟨i0, hi, hz0, hz1, hz2⟩ := info_parts' info_files
  have hsrc := Lib.hid (h.src.below (bl_alloc (Below.refl w.heap.size w) (.cells #[] 65)))
  have hown := Lib.hid (World.ownsRow_made (base := w.heap.size) (e := 65) (size := 2) w #[] 0 (Nat.le_refl _) (by decide) rfl)
  have hsm := h.small
  cases a with
  | none =>
    go_enter Try.func42, Try.ntmps42
    go_wp2_with fail
    go_ret
    obtain ⟨a, c', he, h0, _⟩ := h.src
    cases he
    obtain rfl := h0 rfl
    have hl := h.len
    rw [Nat.zero_mul] at hl
    obtain rfl := List.eq_nil_of_length_eq_zero hl
    exact ⟨_, rfl, World.ownsRow_nil _ _ _ _, Below.refl _ _⟩
  | some ad =>
    go_enter Try.func42, Try.ntmps42
    go_wp2_with (at_builtin; refine wpList_append_src _ rfl (.tmp 5) (.tmp 6) 41 rfl w.heap.size 65 i0 (.agg #[.string ⟨#[]⟩, .slice none 0 0]) 2 40 Try.underlying41 hi hz0 hz1 hz2 rfl (by decide) _ _ _ rfl hown.out _ n _ rfl hsrc.out h.len h.one (by unfold maxLen; omega) (by omega) (by simp) ?_; intro v1 w1 hown1 hgrow1)
    all_goals go_ret
    all_goals exact ⟨_, rfl, by simpa using hown1, (bl_alloc (Below.refl _ _) _).grown hgrow1 (by simp) (fun j hj => (hown.out.lt j hj).1)⟩

set_option maxHeartbeats 2000000 in
set_option maxRecDepth 100000 in
theorem rcopy_bytes (w : World) (a : Option Addr) (n c : Nat) (cs : List Value) (h : RowSrc w a n c 1 cs) :
    Calls Try.prog 17 #[.slice a n c] w fun e w' => ∃ v', e = .returned v' ∧ w'.ownsRow w.heap.size 5 1 v' n cs ∧ Below w.heap.size w w' := by
  obtain ⟨i0, hi, hz0, hz1, hz2⟩ := info_parts' info_bytes
  have hsrc := Lib.hid (h.src.below (bl_alloc (Below.refl w.heap.size w) (.cells #[] 5)))
  have hown := Lib.hid (World.ownsRow_made (base := w.heap.size) (e := 5) (size := 1) w #[] 0 (Nat.le_refl _) (by decide) rfl)
  have hsm := h.small
  go_enter Try.func17, Try.ntmps17
  go_wp2_with (at_builtin; refine wpList_append_src _ rfl (.tmp 3) (.tmp 4) 32 rfl w.heap.size 5 i0 (.int .u8 0) 1 1 Try.underlying32 hi hz0 hz1 hz2 rfl (by decide) _ _ _ rfl hown.out _ n _ rfl hsrc.out h.len h.one (by unfold maxLen; omega) (by omega) (by simp) ?_; intro v1 w1 hown1 hgrow1)
  all_goals go_ret
  all_goals exact ⟨_, rfl, by simpa using hown1, (bl_alloc (Below.refl _ _) _).grown hgrow1 (by simp) (fun j hj => (hown.out.lt j hj).1)⟩
end Go.Proofs.Ytfidmpkblmebeaa
