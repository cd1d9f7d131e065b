/-
  The walk of the law RingPlays, of chapter 24: through any calls a ring is what the document says.
  Conditions: as each theorem states them.
-/
import Derived.Test.YtfbimghnimepjaaPlays2
import Derived.Test.YtfbimghnimepjaaReads
namespace Go.Proofs.Ytfbimghnimepjaa
open Go.RowKit
set_option linter.unusedVariables false
set_option linter.unusedSimpArgs false
/-! ### both rings go on alike -/
theorem push_list (cap low : Nat) (xs : List Int) (x : Int) : (pushM cap low xs x).1 + (pushM cap low xs x).2.length = low + xs.length + 1 := by
  unfold pushM
  split
  · simp; omega
  · simp; omega
theorem push_match {w w' w2 : World} {p g px cap low : Nat} {xs : List Int} (x : Int) (h : Match w p g px cap low xs) (hc : 1 ≤ cap) (hlen : xs.length ≤ cap)
    (room : List Value) (h1 : room.length = cap) (h2 : ∀ j (hj : j < xs.length), room[(low + j) % cap]? = some (.int .i64 xs[j]))
    (hr : RingAt 107 3 w2 p g (room.set ((low + xs.length) % room.length) (.int .i64 x)) (max low (low + xs.length + 1 - room.length)) (low + xs.length + 1))
    (href : RefAt (fun k => k = p ∨ k = g) w2 px cap (pushM cap low xs x).1 (pushM cap low xs x).2) (hs : low ≤ 90000000 ∧ cap ≤ 1000) :
    Match w2 p g px cap (pushM cap low xs x).1 (pushM cap low xs x).2 ∧ (pushM cap low xs x).2.length ≤ cap := by
  subst h1
  have hpl := push_list room.length low xs x
  by_cases hgt : room.length < xs.length + 1
  · have hx : xs.length = room.length := by omega
    have ep : pushM room.length low xs x = (low + 1, (xs ++ [x]).tail) := by unfold pushM; rw [if_pos hgt]
    rw [ep] at href hpl ⊢
    have el : (xs ++ [x]).tail.length = xs.length := by simp
    refine ⟨⟨⟨room.set ((low + xs.length) % room.length) (.int .i64 x), ?_, List.length_set, fun j hj => ?_⟩, href, h.ne, by omega, by rw [el]; omega⟩, by rw [el]; omega⟩
    · have e1 : max low (low + xs.length + 1 - room.length) = low + 1 := by omega
      rw [e1] at hr
      rw [el, show low + 1 + xs.length = low + xs.length + 1 by omega]
      exact hr
    · rw [List.getElem_tail]
      by_cases hj2 : j + 1 = xs.length
      · have e2 : low + 1 + j = low + xs.length := by omega
        rw [e2, List.getElem?_set_self (Nat.mod_lt _ (by omega))]
        simp [hj2]
      · have hj3 : j + 1 < xs.length := by omega
        rw [List.getElem?_set_ne (mod_ne (a := low + 1 + j) (b := low + xs.length) (by omega) (by omega)).symm]
        have := h2 (j + 1) hj3
        rw [show low + 1 + j = low + (j + 1) by omega, this]
        rw [List.getElem_append_left hj3]
  · have ep : pushM room.length low xs x = (low, xs ++ [x]) := by unfold pushM; rw [if_neg hgt]
    rw [ep] at href hpl ⊢
    have el : (xs ++ [x]).length = xs.length + 1 := by simp
    refine ⟨⟨⟨room.set ((low + xs.length) % room.length) (.int .i64 x), ?_, List.length_set, fun j hj => ?_⟩, href, h.ne, by omega, by rw [el]; omega⟩, by rw [el]; omega⟩
    · have e1 : max low (low + xs.length + 1 - room.length) = low := by omega
      rw [e1] at hr
      rw [el, ← Nat.add_assoc]
      exact hr
    · rw [el] at hj
      by_cases hj2 : j = xs.length
      · subst hj2
        rw [List.getElem?_set_self (Nat.mod_lt _ (by omega))]
        simp
      · have hj3 : j < xs.length := by omega
        rw [List.getElem?_set_ne (mod_ne (a := low + j) (b := low + xs.length) (by omega) (by omega)).symm, h2 j hj3]
        rw [List.getElem_append_left hj3]
/-- what the two pushes do -/
theorem push_both (x : Int) {w : World} {p g px cap low : Nat} {xs : List Int} (h : Match w p g px cap low xs) (hc : 1 ≤ cap ∧ cap ≤ 1000) (hlen : xs.length ≤ cap) (hs : low ≤ 90000000) :
    Calls Try.prog 28 #[.pointer (some ⟨p, 0, none⟩), .int .i64 x] w fun e w1 => e = .returned (.int .i64 ((low + xs.length : Nat) : Int)) ∧ Only (fun k => k = p ∨ k = g) w w1 ∧
      Calls Try.prog 29 #[.pointer (some ⟨px, 0, none⟩), .int .i64 x] w1 fun e w2 => e = .returned (.int .i64 ((low + xs.length : Nat) : Int)) ∧ Only (fun k => k = p ∨ k = g ∨ k = px) w w2 ∧
        Match w2 p g px cap (pushM cap low xs x).1 (pushM cap low xs x).2 ∧ (pushM cap low xs x).2.length ≤ cap := by
  obtain ⟨⟨room, hr, h1, h2⟩, h3, h4, h5⟩ := id h
  have hpg : p < w.heap.size ∧ g < w.heap.size := ⟨hr.blk.lt, hr.row.lt⟩
  refine (push_int x w p g room low (low + xs.length) hr (by omega)).mono ?_
  rintro e w1 ⟨rfl, hr1, ho1⟩
  refine ⟨rfl, ho1, ?_⟩
  have h31 := h3.only ho1 (by intro hh; rcases hh with hh | hh; exact h4.1 hh; exact h4.2 hh) (fun k hk => hk)
  refine (refpush_any x w1 px cap low xs h31 (fun k hk => by have := ho1.size; rcases hk with hk | hk <;> omega) (by omega) (by omega) (by omega)).mono ?_
  rintro e w2 ⟨rfl, href, ho2⟩
  have hr2 := hr1.only ho2 (fun hh => h4.1 hh.symm) (fun hh => h4.2 hh.symm)
  refine ⟨rfl, (ho1.mono (fun k hk => by rcases hk with hk | hk; exact .inl hk; exact .inr (.inl hk))).trans (ho2.mono (fun k hk => .inr (.inr hk))), ?_⟩
  exact push_match (w' := w1) x h (by omega) hlen room h1 h2 hr2 href (by omega)
/-- what the two cuts do -/
theorem cut_both (n : Int) {w : World} {p g px cap low : Nat} {xs : List Int} (h : Match w p g px cap low xs) (hlen : xs.length ≤ cap ∧ cap ≤ 1000) (hs : low ≤ 90000000) :
    ∃ k : Nat, k ≤ xs.length ∧ Calls Try.prog 30 #[.pointer (some ⟨p, 0, none⟩), .int .i64 n] w fun e w1 => e = .returned (.int .i64 ((xs.length - k : Nat) : Int)) ∧ Only (fun k => k = p ∨ k = g) w w1 ∧
      Calls Try.prog 31 #[.pointer (some ⟨px, 0, none⟩), .int .i64 n] w1 fun e w2 => e = .returned (.int .i64 ((xs.length - k : Nat) : Int)) ∧ Only (fun k => k = p ∨ k = g ∨ k = px) w w2 ∧
        Match w2 p g px cap low (xs.take k) := by
  obtain ⟨⟨room, hr, h1, h2⟩, h3, h4, h5⟩ := id h
  obtain ⟨to, hto⟩ : ∃ to : Nat, (to : Int) = min (max n low) ((low + xs.length : Nat) : Int) := ⟨(min (max n low) ((low + xs.length : Nat) : Int)).toNat, by omega⟩
  have ht : low ≤ to ∧ to ≤ low + xs.length := by omega
  have hk : (low + xs.length - to : Nat) = xs.length - (to - low) := by omega
  have hk2 : low + (to - low) = to := by omega
  refine ⟨to - low, by omega, (cut_int n w p g room low (low + xs.length) to hr (by omega) hto).mono ?_⟩
  rintro e w1 ⟨room', rfl, hl', hv', hr1, ho1⟩
  refine ⟨by rw [hk], ho1, ?_⟩
  have h31 := h3.only ho1 (by intro hh; rcases hh with hh | hh; exact h4.1 hh; exact h4.2 hh) (fun k hk => hk)
  refine (refcut_any n w1 px cap low to xs h31 (by omega) (by omega) hto).mono ?_
  rintro e w2 ⟨rfl, href, ho2⟩
  have hr2 := hr1.only ho2 (fun hh => h4.1 hh.symm) (fun hh => h4.2 hh.symm)
  have el : (xs.take (to - low)).length = to - low := by rw [List.length_take]; omega
  refine ⟨by rw [hk], (ho1.mono (fun k hk => by rcases hk with hk | hk; exact .inl hk; exact .inr (.inl hk))).trans (ho2.mono (fun k hk => .inr (.inr hk))), ⟨⟨room', by rw [el, hk2]; exact hr2, by rw [hl', h1], fun j hj => ?_⟩, href, h4, by omega, by rw [el]; omega⟩⟩
  rw [el] at hj
  have := hv' (low + j) (by omega) (by omega)
  rw [h1] at this
  rw [this, h2 j (by omega)]
  simp
end Go.Proofs.Ytfbimghnimepjaa
