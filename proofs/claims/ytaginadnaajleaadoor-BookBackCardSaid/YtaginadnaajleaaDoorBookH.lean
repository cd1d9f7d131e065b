/-
  The case of a book: what it has is fit to be told; of chapter 32.
  Conditions: as each theorem states them.
-/
import Derived.Test.YtaginadnaajleaaDoorBookG
namespace Go.Proofs.YtaginadnaajleaaDoor
open Go.RowKit
set_option linter.unusedVariables false
set_option linter.unusedSimpArgs false
open BM (Cs)
theorem lines_no10 : ∀ (s : List UInt8), ∀ l ∈ BM.linesS s, 10 ∉ l
  | [], l, h => by simp [BM.linesS] at h
  | c :: r, l, h => by
    have ih := lines_no10 r
    unfold BM.linesS at h
    split at h
    · rcases List.mem_cons.1 h with rfl | h
      · simp
      · exact ih l h
    · rename_i hc
      split at h
      · simp only [List.mem_cons, List.not_mem_nil, or_false] at h
        subst h
        simp only [List.mem_cons, List.not_mem_nil, or_false]
        exact fun e => hc e.symm
      · rename_i h2 t2 he
        rcases List.mem_cons.1 h with rfl | h
        · simp only [List.mem_cons, not_or]
          exact ⟨fun e => hc e.symm, ih h2 (by rw [he]; simp)⟩
        · exact ih l (by rw [he]; exact List.mem_cons_of_mem _ h)
theorem lines_sum : ∀ (s : List UInt8), ((BM.linesS s).map List.length).sum ≤ s.length
  | [] => by simp [BM.linesS]
  | c :: r => by
    have ih := lines_sum r
    unfold BM.linesS
    split
    · simp only [List.map_cons, List.sum_cons, List.length_nil, List.length_cons]; omega
    · split
      · simp
      · rename_i h2 t2 he
        rw [he] at ih
        simp only [List.map_cons, List.sum_cons, List.length_cons] at ih ⊢; omega
theorem cut_len (l : List UInt8) (h : (BM.cut l).2.2 = true) : (BM.cut l).1.length + 1 + (BM.cut l).2.1.length = l.length := by
  unfold BM.cut at h ⊢
  simp only [decide_eq_true_eq, List.length_drop] at h ⊢
  omega
theorem cut_sub (l : List UInt8) (x : UInt8) (hx : x ∉ l) : x ∉ (BM.cut l).1 ∧ x ∉ (BM.cut l).2.1 := by
  unfold BM.cut
  exact ⟨fun h => hx ((List.takeWhile_prefix OM.nb).subset h), fun h => hx ((List.drop_sublist _ _).subset h)⟩
theorem cut_no32 (l : List UInt8) : 32 ∉ (BM.cut l).1 := fun hm => by
  have h2 := List.all_takeWhile (p := OM.nb) (l := l)
  rw [List.all_eq_true] at h2
  have := h2 32 hm
  simp [OM.nb] at this
theorem num_range {r : List UInt8} (h : (BM.numAll r).2 = 0) : 0 ≤ (BM.numAll r).1 ∧ (BM.numAll r).1 ≤ 1073741824 := by
  unfold BM.numAll at h ⊢
  split at h
  · rename_i hd
    rw [if_pos hd]
    simp only at h ⊢
    unfold numS at h ⊢
    split at h
    · simp at h
    · rename_i h0
      rw [if_neg h0]
      simp only [Int.toNat_zero, List.drop_zero] at h ⊢
      split at h
      · simp at h
      · rename_i h1
        rw [if_neg h1]
        split at h
        · simp at h
        · rename_i h2
          rw [if_neg h2]
          exact ⟨valD_nonneg _ (fun c hc => by
            have h3 := List.all_takeWhile (p := dig) (l := r)
            rw [List.all_eq_true] at h3
            exact h3 c hc), by simp only; omega⟩
  · simp at h
/-- a line keeps what is good, and adds no more than it has -/
theorem lineS_good {c : Cs} (hg : BM.Good c) (l : List UInt8) (h10 : 10 ∉ l) (he : (BM.lineS l c).1 = 0) : BM.Good (BM.lineS l c).2 ∧ Wt (BM.lineS l c).2 ≤ Wt c + 9 * l.length := by
  unfold BM.lineS at he ⊢
  cases hl : BM.look (BM.cut l).1 with
  | none => rw [hl] at he; simp at he
  | some f =>
    rw [hl] at he
    simp only at he ⊢
    by_cases hb : (BM.cut l).2.2 = false
    · rw [if_pos hb] at he; simp at he
    · rw [if_neg hb] at he ⊢
      have hcl := cut_len l (by simpa using hb)
      have hr10 := (cut_sub l 10 h10).2
      have hf : f ∈ [BM.sedR, BM.optionR, BM.inputR, BM.fileR, BM.capR, BM.periodR, BM.fuelR, BM.doR] := by
        unfold BM.look at hl
        rw [Option.map_eq_some_iff] at hl
        obtain ⟨p, hp, rfl⟩ := hl
        have := List.mem_of_find?_eq_some hp
        simp only [BM.readers, List.mem_cons, List.not_mem_nil, or_false] at this
        rcases this with rfl | rfl | rfl | rfl | rfl | rfl | rfl | rfl <;> simp
      have hw2 : 2 ≤ (BM.cut l).1.length := by
        unfold BM.look at hl
        rw [Option.map_eq_some_iff] at hl
        obtain ⟨p, hp, rfl⟩ := hl
        have h1 := List.mem_of_find?_eq_some hp
        have h2 := List.find?_some hp
        have h3 : p.1 = (BM.cut l).1 := by simpa using h2
        rw [← h3]
        simp only [BM.readers, List.mem_cons, List.not_mem_nil, or_false] at h1
        rcases h1 with rfl | rfl | rfl | rfl | rfl | rfl | rfl | rfl <;> decide
      generalize (BM.cut l).2.1 = r at *
      generalize (BM.cut l).1 = wd at *
      obtain ⟨g1, g2, g3, g4, g5, g6⟩ := hg
      simp only [List.mem_cons, List.not_mem_nil, or_false] at hf
      rcases hf with rfl | rfl | rfl | rfl | rfl | rfl | rfl | rfl
      · unfold BM.sedR at he ⊢
        split at he
        · rename_i q
          rw [if_pos q]
          have := quoteAll_le r
          refine ⟨⟨g1, g2, g3, g4, g5, g6⟩, ?_⟩
          unfold Wt
          simp only [List.length_append]; omega
        · rename_i q; exact absurd he q
      · unfold BM.optionR at he ⊢
        repeat' split at he
        all_goals first
          | (exfalso; simp at he; done)
          | skip
        all_goals
          (repeat' split) <;> first
            | exact ⟨⟨g1, g2, g3, g4, g5, g6⟩, by unfold Wt; simp only; omega⟩
            | (exfalso; simp_all; done)
      · unfold BM.inputR at he ⊢
        split at he
        · simp at he
        · rename_i q
          rw [if_neg q]
          refine ⟨⟨fun n hn => ?_, g2, g3, g4, g5, g6⟩, ?_⟩
          · rcases List.mem_append.1 hn with hn | hn
            · exact g1 n hn
            · simp only [List.mem_cons, List.not_mem_nil, or_false] at hn
              subst hn
              exact ⟨fun e => q (.inl e), fun e => q (.inr e), hr10⟩
          · unfold Wt
            simp only [List.map_append, List.map_cons, List.map_nil, List.sum_append, List.sum_cons, List.sum_nil]; omega
      · unfold BM.fileR at he ⊢
        by_cases q0 : (BM.cut r).2.2 = false ∨ (BM.cut r).1 = []
        · rw [if_pos q0] at he; simp at he
        · rw [if_neg q0] at he ⊢
          have hcr := cut_len r (by simpa using fun e => q0 (.inl e))
          have hcs := cut_sub r 10 hr10
          have hc32 := cut_no32 r
          have hqa := quoteAll_le (BM.cut r).2.1
          split at he
          · rename_i q
            rw [if_pos q]
            refine ⟨⟨g1, fun p hp => ?_, g3, g4, g5, g6⟩, ?_⟩
            · rcases List.mem_append.1 hp with hp | hp
              · exact g2 p hp
              · simp only [List.mem_cons, List.not_mem_nil, or_false] at hp
                subst hp
                exact ⟨fun e => q0 (.inr e), hc32, hcs.1⟩
            · unfold Wt
              simp only [List.map_append, List.map_cons, List.map_nil, List.sum_append, List.sum_cons, List.sum_nil]; omega
          · rename_i q; exact absurd he q
      · unfold BM.capR at he ⊢
        split at he
        · rename_i q; rw [if_pos q]; exact ⟨⟨g1, g2, num_range q, g4, g5, g6⟩, by unfold Wt; simp only; omega⟩
        · rename_i q; exact absurd he q
      · unfold BM.periodR at he ⊢
        split at he
        · rename_i q; rw [if_pos q]; exact ⟨⟨g1, g2, g3, num_range q, g5, g6⟩, by unfold Wt; simp only; omega⟩
        · rename_i q; exact absurd he q
      · unfold BM.fuelR at he ⊢
        split at he
        · rename_i q; rw [if_pos q]; exact ⟨⟨g1, g2, g3, g4, num_range q, g6⟩, by unfold Wt; simp only; omega⟩
        · rename_i q; exact absurd he q
      · unfold BM.doR
        refine ⟨⟨g1, g2, g3, g4, g5, fun s hs => ?_⟩, ?_⟩
        · rcases List.mem_append.1 hs with hs | hs
          · exact g6 s hs
          · simp only [List.mem_cons, List.not_mem_nil, or_false] at hs
            subst hs; exact hr10
        · unfold Wt
          simp only [List.map_append, List.map_cons, List.map_nil, List.sum_append, List.sum_cons, List.sum_nil]; omega
theorem runS_good : ∀ (ls : List (List UInt8)) (i : Nat) (c c' : Cs) (n : Int), (∀ l ∈ ls, 10 ∉ l) → BM.Good c → BM.runS i c ls = (c', n, 0) → BM.Good c' ∧ Wt c' ≤ Wt c + 9 * (ls.map List.length).sum
  | [], i, c, c', n, _, hg, h => by
    simp only [BM.runS] at h
    injection h with h _
    subst h
    exact ⟨hg, by simp⟩
  | l :: ls, i, c, c', n, h10, hg, h => by
    have h10' : ∀ x ∈ ls, 10 ∉ x := fun x hx => h10 x (List.mem_cons_of_mem _ hx)
    simp only [List.map_cons, List.sum_cons]
    rw [BM.runS] at h
    split at h
    · obtain ⟨a, b⟩ := runS_good ls _ _ _ _ h10' hg h
      exact ⟨a, by omega⟩
    · split at h
      · rename_i he
        obtain ⟨p, q⟩ := lineS_good hg l (h10 l List.mem_cons_self) he
        obtain ⟨a, b⟩ := runS_good ls _ _ _ _ h10' p h
        exact ⟨a, by omega⟩
      · rename_i he
        injection h with _ h
        injection h with _ h
        exact absurd h he
theorem parsed_good {s : List UInt8} (hs : s.length ≤ 600) {c : Cs} {n : Int} (h : BM.parseS s = (c, n, 0)) : BM.Good c ∧ Told c := by
  obtain ⟨hl1, hl2⟩ := lines_len s
  have h0 : BM.runS 0 BM.init (BM.linesS s) = (c, n, 0) := by unfold BM.parseS at h; rw [if_neg (by omega)] at h; exact h
  obtain ⟨hg, hw⟩ := runS_good _ _ _ _ _ (lines_no10 s) ⟨by simp [BM.init], by simp [BM.init], by simp [BM.init], by simp [BM.init], by simp [BM.init], by simp [BM.init]⟩ h0
  have hsum := lines_sum s
  have hw0 : Wt BM.init = 0 := rfl
  have hW : Wt c ≤ 5400 := by omega
  have hgr := (runS_grown (BM.linesS s) 0 0 BM.init ⟨by simp [BM.init], by simp [BM.init], by simp [BM.init], by simp [BM.init]⟩ (by intro p hp; simp [BM.init] at hp) (fun l hl => by have := hl2 l hl; omega)).1
  rw [h0] at hgr
  have k1 := hgr.inputs
  have k2 := hgr.files
  have k3 := hgr.lines
  simp only at k1 k2 k3
  have m1 := fun x hx => sum_mem (α := BM.Bytes) (fun s => s.length + 7) c.inputs x hx
  have m2 := fun x hx => sum_mem (α := BM.Bytes × BM.Bytes) (fun p => p.1.length + 4 * p.2.length + 9) c.files x hx
  have m3 := fun x hx => sum_mem (α := BM.Bytes) (fun s => s.length + 4) c.lines x hx
  refine ⟨hg, told_wt (by omega) ⟨by have := hg.cap; omega, by have := hg.period; omega, by have := hg.fuel; omega⟩ (by omega) (by omega) (by omega) ⟨fun x hx => ?_, fun x hx => ?_, fun x hx => ?_⟩⟩
  · have := m1 x hx; unfold Wt at hW; omega
  · have := m2 x hx; unfold Wt at hW; omega
  · have := m3 x hx; unfold Wt at hW; omega
theorem text_short {s : List UInt8} (hs : s.length ≤ 600) {c : Cs} {n : Int} (h : BM.parseS s = (c, n, 0)) : (BM.textS c).length ≤ 5600 := by
  have h0 : BM.runS 0 BM.init (BM.linesS s) = (c, n, 0) := by unfold BM.parseS at h; rw [if_neg (by omega)] at h; exact h
  obtain ⟨hg, hw⟩ := runS_good _ _ _ _ _ (lines_no10 s) ⟨by simp [BM.init], by simp [BM.init], by simp [BM.init], by simp [BM.init], by simp [BM.init], by simp [BM.init]⟩ h0
  have hsum := lines_sum s
  have hw0 : Wt BM.init = 0 := rfl
  have ht := text_len c (by have := hg.cap; omega) (by have := hg.period; omega) (by have := hg.fuel; omega)
  omega
end Go.Proofs.YtaginadnaajleaaDoor
