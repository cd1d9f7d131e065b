/-
  Snaps: Ahead, Behind; of chapter 25.
  Conditions: as each theorem states them.
-/
import Derived.Test.YtfidmpkblmebeaaSnap2
namespace Go.Proofs.Ytfidmpkblmebeaa
open Go.RowKit Go.Sort Go.Shelf
set_option linter.unusedVariables false
set_option linter.unusedSimpArgs false
attribute [local go_sem ↓] load_st store_st
theorem arr_get {l : List Int} {i : Nat} (h : i < l.length) : l.toArray[i]! = l[i] := by simp [h]
theorem rise_le {l : List Int} (h : l.Pairwise (· < ·)) {a b : Nat} (hab : a ≤ b) (hb : b < l.length) : l.toArray[a]! ≤ l.toArray[b]! := by
  rw [arr_get hb, arr_get (Nat.lt_of_le_of_lt hab hb)]
  rcases Nat.lt_or_eq_of_le hab with h1 | h1
  · exact Int.le_of_lt (List.pairwise_iff_getElem.1 h a b _ hb h1)
  · subst h1; exact Int.le_refl _
/-- SearchInts at numbers in memory -/
theorem search_ints {w : World} {base : Nat} {v : Value} {l : List Int} (h : NumAt w base v l) (hr : l.Pairwise (· < ·)) (hl : l.length ≤ 100000) (k : Int) :
    Calls Try.prog 28 #[v, .int .i64 k] w fun e w' => e = .returned (.int .i64 ((l.countP fun y => decide (y < k) : Nat) : Int)) ∧ Below w.heap.size w w' := by
  obtain ⟨a, c, rfl, hrow⟩ := h.slice
  have he : ∀ y : Int, (!decide (k ≤ y)) = decide (y < k) := fun y => by rw [Bool.eq_iff_iff]; simp
  by_cases h0 : 0 < l.length
  · obtain ⟨g, rfl, _, hg, hc⟩ := hrow h0
    have := Any.sort_SearchInts Try.searchIntsL g 0 c l.toArray k w (fun i hi => by
      have hi' : i < l.length := by simpa using hi
      rw [Nat.zero_add, hc i hi', arr_get hi']) hg (by simp; omega) (fun a b hab hb h => by
      have := rise_le hr hab (by simpa using hb)
      simp only [decide_eq_true_eq] at h ⊢
      omega)
    simp only [he, List.size_toArray] at this
    exact this
  · have hn : l = [] := List.eq_nil_of_length_eq_zero (by omega)
    subst hn
    exact Any.sort_SearchInts_none Try.searchIntsL a c k w
set_option maxRecDepth 100000 in
theorem closure_above {X : World} {lb nb g c m i : Nat} {y k : Int} (hi : i < m) (ha : X.cell? ⟨lb, 0, none⟩ = some (.slice (some ⟨g, 0, none⟩) m c)) (hk : X.cell? ⟨nb, 0, none⟩ = some (.int .i64 k)) (hc : X.cell? ⟨g, i, none⟩ = some (.int .i64 y)) :
    Calls Try.prog 27 (#[.int .i64 (i : Int)] ++ #[.pointer (some ⟨lb, 0, none⟩), .pointer (some ⟨nb, 0, none⟩)]) X fun e w' => e = .returned (.bool (decide (k < y))) ∧ ∃ q, w' = X.drewN q := by
  have hiz : (i : Int) < (m : Int) := by omega
  go_enter Try.func27, Try.ntmps27
  go_wp2
  go_region
  all_goals go_wp2
  all_goals go_ret
  all_goals exact ⟨by first | rfl | simp, 1, rfl⟩
/-- Search for the first number above -/
theorem search_above {w : World} {base : Nat} {v : Value} {l : List Int} (h : NumAt w base v l) (hr : l.Pairwise (· < ·)) (hl : l.length ≤ 100000) (k : Int) {lb nb : Nat} (hlb : w.cell? ⟨lb, 0, none⟩ = some v) (hnb : w.cell? ⟨nb, 0, none⟩ = some (.int .i64 k)) :
    Calls Try.prog 26 #[.int .i64 (l.length : Int), .func (.func 27) #[] #[.pointer (some ⟨lb, 0, none⟩), .pointer (some ⟨nb, 0, none⟩)]] w fun e w' => e = .returned (.int .i64 ((l.countP fun y => decide (y ≤ k) : Nat) : Int)) ∧ Below w.heap.size w w' := by
  have eg : ∀ args w, (callFunc 27 args).run Try.prog w = .ok (.enter 27 args) w := enters_of Try.func27 (by kernel_rfl) rfl
  obtain ⟨a, c, rfl, hrow⟩ := h.slice
  have hlt := World.block_lt_of_cell? w _ hlb
  have hnt := World.block_lt_of_cell? w _ hnb
  have hS := Any.sort_Search Try.searchL 27 #[.pointer (some ⟨lb, 0, none⟩), .pointer (some ⟨nb, 0, none⟩)] l.length (fun i => decide (k < l.toArray[i]!)) w eg (by omega)
    (fun m os i hi => by
      obtain ⟨g, rfl, _, hg, hc⟩ := hrow (by omega)
      refine (closure_above (g := g) (y := l.toArray[i]!) hi (cell_grown hlt hlb m os) (cell_grown hnt hnb m os) (cell_grown hg (by rw [hc i hi, arr_get hi]) m os)).mono ?_
      rintro e w' ⟨he, q, hq⟩
      exact ⟨he, q, #[], by rw [hq, grow_empty]⟩) (fun a b hab hb h => by
      have := rise_le hr hab hb
      simp only [decide_eq_true_eq] at h ⊢
      omega)
  have he : ∀ y : Int, (!decide (k < y)) = decide (y ≤ k) := fun y => by rw [Bool.eq_iff_iff]; simp
  have hcp := Lib.countP_range l.toArray (fun y => !decide (k < y))
  simp only [List.size_toArray] at hcp
  rw [hcp] at hS
  simp only [he] at hS
  change Calls Try.prog 26 _ _ _ at hS
  refine hS.mono ?_
  rintro e w' ⟨rfl, q, os, rfl⟩
  exact ⟨rfl, below_grown_sl w.heap.size w q os (Nat.le_refl _)⟩
/-- what looking answers -/
def LookIs (o : Option (Int × StC)) (Q : StC → StC → Nat → World → Prop) (w : World) (e : Ending) (w' : World) : Prop := match o with
  | none => e = .returned (.tuple #[.int .i64 0, .agg zeroC.cells.toArray, .bool false]) ∧ Below w.heap.size w w'
  | some x => ∃ s' n5 w5, e = .returned (.tuple #[.int .i64 x.1, .agg s'.cells.toArray, .bool true]) ∧ Q x.2 s' n5 w5 ∧ w.heap.size ≤ n5 ∧ Below w.heap.size w w5 ∧ Only (fun k => w.heap.size ≤ k ∧ k < n5) w5 w'
/-- told at a place of the numbers -/
theorem told_any {w : World} {p mb n : Nat} {period : Int} {L : List (Int × StC)} (hS : SnAt w p mb n period L) (hl : L.length ≤ 100000) {base : Nat} {v : Value} (hv : NumAt w base v (L.map Prod.fst)) (i : Int) {Q : StC → StC → Nat → World → Prop} (hc : ∀ x ∈ L, Copies w x.2 (Q x.2)) :
    Calls Try.prog 25 #[.pointer (some ⟨p, 0, none⟩), v, .int .i64 i] w (LookIs (if i < 0 then none else L[i.toNat]?) Q w) := by
  by_cases h0 : i < 0
  · rw [if_pos h0]
    obtain ⟨a, c, rfl, _⟩ := hv.slice
    exact told_no w _ a _ c i (.inl h0)
  · rw [if_neg h0]
    obtain ⟨j, rfl⟩ : ∃ j : Nat, i = (j : Int) := ⟨i.toNat, by omega⟩
    rw [Int.toNat_natCast]
    by_cases h1 : j < L.length
    · rw [List.getElem?_eq_getElem h1]
      refine (told_yes hS hl hv j h1 (hc _ (List.getElem_mem h1))).mono ?_
      rintro e w' ⟨s', n5, w5, rfl, q, hn, hb, ho⟩
      exact ⟨s', n5, w5, rfl, q, Nat.le_of_lt hn, hb, ho.mono (fun k hk => by rw [hk]; exact ⟨Nat.le_refl _, hn⟩)⟩
    · rw [List.getElem?_eq_none (by omega)]
      obtain ⟨a, c, rfl, _⟩ := hv.slice
      exact told_no w _ a _ c _ (.inr (by rw [List.length_map]; omega))
theorem told_at {L : List (Int × StC)} (hr : SM.Rising L) (k : Int) : (if (((L.map Prod.fst).countP fun y => decide (y ≤ k) : Nat) : Int) - 1 < 0 then none else L[((((L.map Prod.fst).countP fun y => decide (y ≤ k) : Nat) : Int) - 1).toNat]?) = SM.ahead L k := by
  rw [SM.ahead_eq hr, List.countP_map]
  have : ((fun y => decide (y ≤ k)) ∘ Prod.fst : Int × StC → Bool) = fun p => decide (p.1 ≤ k) := rfl
  rw [this]
  generalize L.countP (fun p => decide (p.1 ≤ k)) = c
  cases c with
  | zero => rfl
  | succ c => rw [if_neg (by omega), if_neg (by omega)]; congr 1; omega
theorem told_bat {L : List (Int × StC)} (hr : SM.Rising L) (k : Int) : (if (((L.map Prod.fst).countP fun y => decide (y < k) : Nat) : Int) < 0 then none else L[(((L.map Prod.fst).countP fun y => decide (y < k) : Nat) : Int).toNat]?) = SM.behind L k := by
  rw [SM.behind_eq hr, List.countP_map]
  rw [if_neg (by omega)]
  rfl
end Go.Proofs.Ytfidmpkblmebeaa
