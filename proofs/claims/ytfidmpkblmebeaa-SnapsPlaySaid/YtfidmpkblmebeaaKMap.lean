/-
  The map of what is kept: looked up, put, deleted; of chapter 25.
  Conditions: as each theorem states them.
-/
import Derived.Test.YtfidmpkblmebeaaNumb
namespace Go.Proofs.Ytfidmpkblmebeaa
open Go.RowKit Go.Maps Go.Shelf
set_option linter.unusedVariables false
set_option linter.unusedSimpArgs false
def heldC (s : StC) : DataW Value := .held (.agg s.cells.toArray)
theorem has_data (L : List (Int × StC)) (n : Int) : Maps.has (dataOf L) (.int .i64 n) = SM.has L n := by
  show (L.map entryOf).any (fun p => p.1.sameKey (.int .i64 n)) = L.any fun p => p.1 == n
  rw [List.any_map]
  congr 1
  funext p
  simp [entryOf, Lit.sameKey, Function.comp]
  rfl
theorem insert_data (n : Int) (s : StC) : ∀ (L : List (Int × StC)), (∀ p ∈ L, p.1 ≠ n) → DataW.insert (Lit.int .i64 n, heldC s) (L.map entryOf) = (SM.put n s L).map entryOf
  | [], _ => rfl
  | p :: L, h => by
    have ih := insert_data n s L (fun q hq => h q (by simp [hq]))
    have e : (p :: L).map entryOf = entryOf p :: L.map entryOf := rfl
    rw [e]
    unfold DataW.insert SM.put
    have hb : (Lit.int IntKind.i64 n).before (entryOf p).1 = decide (n < p.1) := rfl
    by_cases hq : n < p.1
    · rw [if_pos (show ((Lit.int IntKind.i64 n, heldC s).1.before (entryOf p).1) = true by rw [show (Lit.int IntKind.i64 n, heldC s).1 = Lit.int .i64 n from rfl, hb]; simpa using hq), if_pos hq]
      rfl
    · rw [if_neg (show ¬ ((Lit.int IntKind.i64 n, heldC s).1.before (entryOf p).1) = true by rw [show (Lit.int IntKind.i64 n, heldC s).1 = Lit.int .i64 n from rfl, hb]; simpa using hq), if_neg hq, ih]
      rfl
theorem filter_data (L : List (Int × StC)) (n : Int) : (L.map entryOf).filter (fun p => !p.1.sameKey (.int .i64 n)) = (L.filter fun p => decide (p.1 ≠ n)).map entryOf := by
  rw [List.filter_map]
  congr 1
  apply List.filter_congr
  intro p hp
  simp [entryOf, Lit.sameKey, Function.comp]
theorem not_has {L : List (Int × StC)} {n : Int} (h : SM.has L n = false) : ∀ p ∈ L, p.1 ≠ n := by
  unfold SM.has at h
  intro p hp
  have := List.any_eq_false.1 h p hp
  simpa using this
theorem put_data {L : List (Int × StC)} {n : Int} (hh : SM.has L n = false) (s : StC) : (dataOf L).put (.int .i64 n) (heldC s) = dataOf (SM.put n s L) := by
  have h1 := not_has hh
  have h2 : (L.filter fun p => decide (p.1 ≠ n)) = L := List.filter_eq_self.2 fun p hp => by simpa using h1 p hp
  show DataW.map (DataW.insert _ ((L.map entryOf).filter _)) = _
  rw [filter_data, h2, insert_data n s L h1]
  rfl
theorem del_data (L : List (Int × StC)) (n : Int) : (dataOf L).del (.int .i64 n) = dataOf (L.filter fun p => decide (p.1 ≠ n)) := by
  show DataW.map ((L.map entryOf).filter _) = _
  rw [filter_data]
  rfl
theorem find_data (n : Int) (s : StC) (L : List (Int × StC)) (hr : SM.Rising L) (h : (n, s) ∈ L) : (L.map entryOf).find? (fun q => q.1.sameKey (.int .i64 n)) = some (entryOf (n, s)) := by
  induction L with
  | nil => cases h
  | cons p L ih =>
    obtain ⟨h1, h2⟩ := List.pairwise_cons.1 hr
    rw [List.map_cons]
    by_cases hp : p.1 = n
    · have hps : p = (n, s) := by
        rcases List.mem_cons.1 h with h | h
        · exact h.symm
        · have := h1 _ h
          simp only at this
          omega
      rw [List.find?_cons_of_pos (by simp [entryOf, Lit.sameKey, hp]), hps]
    · have hm : (n, s) ∈ L := by
        rcases List.mem_cons.1 h with h | h
        · rw [← h] at hp; exact absurd rfl hp
        · exact h
      rw [List.find?_cons_of_neg (by simp [entryOf, Lit.sameKey, hp]), ih h2 hm]
theorem at_data {L : List (Int × StC)} (hr : SM.Rising L) {n : Int} {s : StC} (h : (n, s) ∈ L) (z : DataW Value) : (dataOf L).atKey (.int .i64 n) z = heldC s := by
  unfold DataW.atKey dataOf
  simp only
  rw [find_data n s L hr h]
  rfl
theorem keyL (n : Int) (hn : -9223372036854775808 ≤ n ∧ n ≤ 9223372036854775807) : keyOf Try.prog 3 (.int .i64 n) = some (.int .i64 n) :=
  keyOf_int_mk Try.underlying3 (by simp [Lit.wf, IntKind.min, IntKind.max, IntKind.signed, IntKind.bits]; omega)
theorem zeroState (w : World) : (zeroValue 43).run Try.prog w = .ok (.agg zeroC.cells.toArray) w := by kernel_rfl
theorem KMap.only {K : Nat → Prop} {w w' : World} {mb n : Nat} {L : List (Int × StC)} (h : KMap w mb n L) (ho : Only K w w') (hn : ¬ K mb) : KMap w' mb n L := by
  have hl := h.lt
  obtain ⟨es, clock, hb, F, hs, hD⟩ := h
  exact ⟨es, clock, (ho.block mb hl hn).trans hb, F, hs, hD⟩
theorem KMap.below {w w' : World} {mb n : Nat} {L : List (Int × StC)} (h : KMap w mb n L) (hb : Below w.heap.size w w') : KMap w' mb n L := h.only (K := fun _ => False) (Only.of_below hb) id
theorem KMap.made (w : World) : KMap (w.alloc (.map #[] 0)) w.heap.size 0 [] := World.ownsMap_made w Try.prog 3 RV
theorem only_grown {w w' : World} {b : Nat} (h : w.grownBy w' (some b)) : Only (fun k => k = b) w w' := ⟨h.os, h.tape, h.output, h.size, fun k hk hn => h.block k hk (fun e => hn (by injection e))⟩
theorem KMap.look_ok {w : World} {mb n : Nat} {L : List (Int × StC)} (h : KMap w mb n L) (k : Int) (hk : -9223372036854775808 ≤ k ∧ k ≤ 9223372036854775807) : ∃ v, (Instr.lookup 59 (.map (some mb)) (.int .i64 k) true).run Try.prog w = .ok (.tuple #[v, .bool (SM.has L k)]) w ∧ ∃ s : StC, v = .agg s.cells.toArray ∨ v = .agg zeroC.cells.toArray := by
  obtain ⟨v, ps, h1, h2⟩ := World.ownsMap.look_ok (P := Try.prog) h (int_keyed Try.underlying3) Try.underlying59 (zeroState w) (zd := heldC zeroC) (zp := []) rfl (keyL k hk)
  rw [has_data] at h1
  refine ⟨v, h1, ?_⟩
  simp only [RV, Option.some.injEq, Prod.mk.injEq] at h2
  have h3 := h2.1
  unfold DataW.atKey dataOf at h3
  simp only at h3
  split at h3
  · rename_i p hp
    have hm := List.mem_of_find?_eq_some hp
    obtain ⟨q, hq, rfl⟩ := List.mem_map.1 hm
    simp only [entryOf, DataW.held.injEq] at h3
    exact ⟨q.2, .inl h3⟩
  · simp only [heldC, DataW.held.injEq] at h3
    exact ⟨zeroC, .inr h3⟩
theorem KMap.look {w : World} {mb n : Nat} {L : List (Int × StC)} (h : KMap w mb n L) (hr : SM.Rising L) {k : Int} {s : StC} (hm : (k, s) ∈ L) (hk : -9223372036854775808 ≤ k ∧ k ≤ 9223372036854775807) : (Instr.lookup 59 (.map (some mb)) (.int .i64 k) false).run Try.prog w = .ok (.agg s.cells.toArray) w := by
  obtain ⟨v, ps, h1, h2⟩ := World.ownsMap.lookup (P := Try.prog) h (int_keyed Try.underlying3) Try.underlying59 (zeroState w) (zd := heldC zeroC) (zp := []) rfl (keyL k hk)
  rw [at_data hr hm] at h2
  simp only [RV, heldC, Option.some.injEq, Prod.mk.injEq, DataW.held.injEq] at h2
  rw [← h2.1]
  exact h1
theorem KMap.put {w : World} {mb n : Nat} {L : List (Int × StC)} (h : KMap w mb n L) (hn : n < 1000000) {k : Int} (hh : SM.has L k = false) (hk : -9223372036854775808 ≤ k ∧ k ≤ 9223372036854775807) (s : StC) : ∃ w', (Instr.mapUpdate 59 (.map (some mb)) (.int .i64 k) (.agg s.cells.toArray)).run Try.prog w = .ok () w' ∧ KMap w' mb (n + 1) (SM.put k s L) ∧ Only (fun i => i = mb) w w' := by
  obtain ⟨w', h1, h2, h3⟩ := World.ownsMap.update (P := Try.prog) h (int_keyed Try.underlying3) Try.underlying59 (by unfold maxLen; omega) (keyL k hk) (val := .agg s.cells.toArray) (d := heldC s) (ps := []) rfl
  rw [put_data hh] at h2
  exact ⟨w', h1, h2, only_grown h3⟩
theorem KMap.del {w : World} {mb n : Nat} {L : List (Int × StC)} (h : KMap w mb n L) (k : Int) (hk : -9223372036854775808 ≤ k ∧ k ≤ 9223372036854775807) (ty : TypeId) : ∃ w', (Builtin.delete_ #[59, 3] ty #[.map (some mb), .int .i64 k]).run Try.prog w = .ok (.tuple #[]) w' ∧ KMap w' mb n (L.filter fun p => decide (p.1 ≠ k)) ∧ Only (fun i => i = mb) w w' := by
  obtain ⟨w', h1, h2, h3⟩ := World.ownsMap.drop (P := Try.prog) h (int_keyed Try.underlying3) Try.underlying59 (keyL k hk) ty
  rw [del_data] at h2
  exact ⟨w', h1, h2, only_grown h3.grown⟩
end Go.Proofs.Ytfidmpkblmebeaa
