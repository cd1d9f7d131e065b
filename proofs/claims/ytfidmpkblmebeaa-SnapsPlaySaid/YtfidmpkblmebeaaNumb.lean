/-
  The numbers of what is kept: the map's keys, sorted; of chapter 25.
  Conditions: as each theorem states them.
-/
import Derived.Test.YtfidmpkblmebeaaStLd
import Derived.Test.YtfidmpkblmebeaaSnapM
import Derived.Test.YtfidmpkblmebeaaShelf
import Derived.Maps.OwnSet
import Derived.Maps.Ext
namespace Go.Proofs.Ytfidmpkblmebeaa
open Go.RowKit Go.Maps Go.Sort Go.Shelf
set_option linter.unusedVariables false
set_option linter.unusedSimpArgs false
/-- what a map's element is read as: itself -/
def RV : Value → Option (DataW Value × List MemPlace) := fun v => some (.held v, [])
def entryOf (p : Int × StC) : Lit × DataW Value := (.int .i64 p.1, .held (.agg p.2.cells.toArray))
def dataOf (L : List (Int × StC)) : DataW Value := .map (L.map entryOf)
/-- the map of what is kept -/
def KMap (w : World) (mb n : Nat) (L : List (Int × StC)) : Prop := w.ownsMap Try.prog 3 RV mb n (dataOf L)
theorem keys_data (L : List (Int × StC)) : intKeys (dataOf L) = L.map Prod.fst := by
  show (L.map entryOf).map (fun p => Go.intOf p.1) = _
  rw [List.map_map]
  rfl
theorem rising_sorted {L : List (Int × StC)} (h : SM.Rising L) : (L.map Prod.fst).mergeSort leI = L.map Prod.fst := by
  apply List.mergeSort_of_pairwise
  refine List.pairwise_map.2 (List.Pairwise.imp ?_ h)
  intro a b hab
  simp [leI]; omega
theorem size_data (L : List (Int × StC)) : Maps.size (dataOf L) = L.length := by simp [Maps.size, dataOf]
set_option maxHeartbeats 2000000 in
set_option maxRecDepth 100000 in
theorem numbers_any {w : World} {p mb n : Nat} {period : Int} {L : List (Int × StC)} (hp : Blk w p 61 [.int .i64 period, .map (some mb)]) (hm : KMap w mb n L) (hr : SM.Rising L) (hn : L.length ≤ 1000000) :
    Calls Try.prog 13 #[.pointer (some ⟨p, 0, none⟩)] w fun e w' => ∃ v, e = .returned v ∧ w'.ownsRow w.heap.size 3 1 v L.length ((L.map Prod.fst).map encZ) ∧ Below w.heap.size w w' := by
  refine (callsIn_wide (n := 6)).1 ?_
  have hbl := hm.lt
  have hseq : SeqGives Fence.wide 3 Try.prog 34 #[.pointer (some ⟨w.heap.size, 0, none⟩)] encZ (fun ss => ss.Perm (intKeys (dataOf L))) (Maps.size (dataOf L)) (w.alloc (.cells #[.map (some mb)] 59)) :=
    AnyZI.keys_gives (ρ := Try.keysL_ren) { Try.keysL with } Fence.wide _ trivial rfl (by omega) w.heap.size mb n (dataOf L) _ (by simp) (by simp) (by
      obtain ⟨es, clock, hb, Ft, hs, hD⟩ := hm
      exact ⟨es, clock, (Below.heap_alloc _ _ mb hbl).trans hb, Ft, hs, hD⟩)
  have cK : ∀ mb W, CallsIn Fence.wide 5 Try.prog 20 #[.map mb] W fun e w' => e = .returned (.func (.func 34) #[] #[.pointer (some ⟨W.heap.size, 0, none⟩)]) ∧ w' = W.alloc (.cells #[.map mb] 59) := fun mb W => AnyZI.keys_in Try.keysL Fence.wide 5 trivial rfl mb W
  have cC := AnyZI.collect_in Try.collectL Fence.wide 5 trivial trivial rfl (by omega) 34 #[.pointer (some ⟨w.heap.size, 0, none⟩)] trivial (enters_of Try.func34 (by kernel_rfl) rfl) (fun ss => ss.Perm (intKeys (dataOf L))) (Maps.size (dataOf L)) (by rw [size_data]; unfold maxLen; omega) (by rw [size_data]; omega) (w.alloc (.cells #[.map (some mb)] 59)) hseq
  change CallsIn _ _ Try.prog 19 _ _ _ at cC
  have hfK : Fence.wide.fn 20 := trivial
  have hfC : Fence.wide.fn 19 := trivial
  have hfS : Fence.wide.fn 21 := trivial
  have p1 : w.cell? ⟨p, 1, none⟩ = some (.map (some mb)) := hp.cell 1
  have pl := hp.lt
  clear hseq hp
  refine callsIn_of_wp Try.func13 rfl trivial ?_ rfl
  simp only [Try.ntmps13, List.size_toArray, List.length_cons, List.length_nil, Nat.reduceAdd, Nat.reduceSub, Array.replicate_succ, Array.replicate_zero, List.push_toArray, List.append_toArray, List.nil_append, List.cons_append]
  gi_wp2_with (first
    | (gi_at_call 20; refine (cK _ _).mono ?_; rintro e w' ⟨rfl, rfl⟩)
    | (gi_at_call 19; refine cC.mono ?_; rintro e W ⟨v, ss, rfl, hS, hrow, hnil, hb⟩))
  replace hrow : W.ownsRow (w.alloc (.cells #[.map (some mb)] 59)).heap.size 3 1 v ss.length (ss.map encZ) := hrow
  have hSL : ss.length = L.length := by rw [hS.length_eq, keys_data, List.length_map]
  have hms : ss.mergeSort leI = L.map Prod.fst := by rw [mergeSort_of_perm_i hS, keys_data, rising_sorted hr]
  rcases hrow.2 with ⟨rfl, hz⟩ | ⟨gb, cap, cur, rfl, hbase, hgb, r1, r2, r3, r4⟩
  · have hss : ss = [] := List.eq_nil_of_length_eq_zero hz
    subst hss
    have cS : CallsIn Fence.wide 5 Try.prog 21 #[.slice none 0 0] W (fun e w' => e = .returned (.tuple #[]) ∧ w' = W) := callsIn_wide.2 (Any.sort_Ints_none Try.lays191 none 0 W)
    have hL : L = [] := List.eq_nil_of_length_eq_zero (by simpa using hSL.symm)
    subst hL
    gi_wp2_with (gi_at_call 21; refine cS.mono ?_; rintro e w' ⟨rfl, rfl⟩)
    go_ret
    exact ⟨.slice none 0 0, rfl, ownsRow_base_a (by simpa using hrow) (by simp), ((Below.refl _ w).alloc (Nat.le_refl _) _).trans (hb.mono (by simp))⟩
  · have hH : Holds encZ W gb 0 ss.toArray := holds_of_block_i hgb (by simpa using r4)
    have hgl : gb < W.heap.size := (Array.getElem?_eq_some_iff.1 hgb).1
    have hsz : ss.length < 4611686018427387904 := by omega
    have cS : CallsIn Fence.wide 5 Try.prog 21 #[.slice (some ⟨gb, 0, none⟩) ss.length cap] W (fun e w' => e = .returned (.tuple #[]) ∧ ∃ n os, w' = grow (putRow (Value.int .i64) (Sort.ahead W n) gb 0 (ss.mergeSort fun x y => decide (x ≤ y)).toArray) os) := callsIn_wide.2 (Any.sort_Ints Try.lays191 gb 0 cap ss W hH hgl hsz)
    gi_wp2_with (gi_at_call 21; refine cS.mono ?_; rintro e w' ⟨rfl, nn, os, rfl⟩)
    go_ret
    have hres := ownsRow_sorted_i (base := (w.alloc (.cells #[.map (some mb)] 59)).heap.size) (os := os) (n := nn) (ts := ss.mergeSort leI) (by simp) hbase hgb r1 r2 r3
    rw [hms, hSL] at hres
    refine ⟨_, rfl, ?_, ((Below.refl _ w).alloc (Nat.le_refl _) _).trans ((hb.grown (grownBy_sorted_i _) hb.size (fun j hj => by cases hj; exact hbase)).mono (by simp))⟩
    have := ownsRow_base_a hres (show w.heap.size ≤ _ by simp)
    exact this
end Go.Proofs.Ytfidmpkblmebeaa
