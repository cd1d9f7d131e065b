/-
  Contracts of view's Break and of its reference: a breakpoint's row.
  Conditions: the table of powers of ten lies as laid ('Pow'); as each theorem states them; none beyond.
-/
import Derived.Test.YtjfpepinmbbnbaaDoorView0
namespace Go.Proofs.YtjfpepinmbbnbaaDoor
open Go.RowKit
set_option linter.unusedVariables false
set_option linter.unusedSimpArgs false
def offS (off : Bool) (s : ByteArray) : ByteArray := if off then s ++ ⟨#[32, 111, 102, 102]⟩ else s
/-- a breakpoint's row -/
def breakS (id k n : Int) (cond : ByteArray) (off : Bool) : ByteArray :=
  offS off (if k = 0 then txt id ++ ⟨#[32, 99, 109, 100]⟩ ++ numW n else if k = 1 then txt id ++ ⟨#[32, 108, 105, 110, 101]⟩ ++ numW n
    else if k = 2 then txt id ++ ⟨#[32, 119, 97, 116, 99, 104, 32]⟩ ++ cond else txt id ++ ⟨#[32, 107, 105, 110, 100]⟩ ++ numW k)
def Brk (w : World) (b : Nat) (id k n : Int) (cond : ByteArray) (off : Bool) : Prop :=
  w.cell? ⟨b, 0, none⟩ = some (.int .i64 id) ∧ w.cell? ⟨b, 1, none⟩ = some (.int .i64 k) ∧ w.cell? ⟨b, 2, none⟩ = some (.int .i64 n) ∧ w.cell? ⟨b, 3, none⟩ = some (.string cond) ∧ w.cell? ⟨b, 4, none⟩ = some (.bool off)
theorem Brk.new (w : World) (e : TypeId) (id k n : Int) (cond : ByteArray) (off : Bool) : Brk (w.alloc (.cells #[.int .i64 id, .int .i64 k, .int .i64 n, .string cond, .bool off] e)) w.heap.size id k n cond off := by
  have h := (Blk.new w e [.int .i64 id, .int .i64 k, .int .i64 n, .string cond, .bool off]).cell
  exact ⟨h 0, h 1, h 2, h 3, h 4⟩
theorem Brk.below {w w' : World} {b : Nat} {id k n : Int} {cond : ByteArray} {off : Bool} (h : Brk w b id k n cond off) {N : Nat} (hN : b < N) (hb : Below N w w') : Brk w' b id k n cond off := by
  obtain ⟨h0, h1, h2, h3, h4⟩ := h
  exact ⟨(hb.cell (p := ⟨b, 0, none⟩) hN).trans h0, (hb.cell (p := ⟨b, 1, none⟩) hN).trans h1, (hb.cell (p := ⟨b, 2, none⟩) hN).trans h2, (hb.cell (p := ⟨b, 3, none⟩) hN).trans h3, (hb.cell (p := ⟨b, 4, none⟩) hN).trans h4⟩
set_option maxHeartbeats 4000000 in
theorem refbreak_any (id k n : Int) (hid : -9223372036854775808 ≤ id ∧ id ≤ 9223372036854775807) (hk : -9223372036854775808 ≤ k ∧ k ≤ 9223372036854775807) (hn : -9223372036854775808 ≤ n ∧ n ≤ 9223372036854775807) (cond : ByteArray) (hc : cond.size ≤ 300) (off : Bool) (w : World) :
    Calls Tryd.prog 28 #[.agg #[.int .i64 id, .int .i64 k, .int .i64 n, .string cond, .bool off]] w fun e w' => e = .returned (.string (breakS id k n cond off)) ∧ Below w.heap.size w w' := by
  have h1 := Lib.hid (rtext_any id hid)
  have h2 := Lib.hid (num_any30 n hn)
  have h3 := Lib.hid (num_any30 k hk)
  have z1 := txt_size id hid
  have z2 := numW_size n hn
  have z3 := numW_size k hk
  obtain ⟨R, hR⟩ : ∃ R, breakS id k n cond off = R := ⟨_, rfl⟩
  rw [hR]
  unfold breakS at hR
  generalize txt id = s1 at *
  generalize numW n = s2 at *
  generalize numW k = s3 at *
  replace hR := Lib.hid hR
  clear hid hn
  have main : (k = 0 ∨ k = 1 ∨ k = 2 ∨ (k ≠ 0 ∧ k ≠ 1 ∧ k ≠ 2)) := by omega
  have hbox := Lib.hid (Brk.new w 51 id k n cond off)
  go_enter Tryd.func28, Tryd.ntmps28
  go_wp2_with fail
  refine (h1.out _).mono ?_
  rintro e w2 ⟨rfl, hb2⟩
  have hB2 := bl_trans (bl_alloc (Below.refl w.heap.size w) _) hb2
  have hlt : w.heap.size < w2.heap.size := by have := hb2.size; simp at this; omega
  obtain ⟨c0, c1, c2, c3, c4⟩ := hbox.out.below (by simp) hb2
  clear hb2 hbox
  rcases main with rfl | rfl | rfl | ⟨q0, q1, q2⟩
  · cases off
    all_goals (
      go_wp2_with (go_at_call 62; refine (h2.out _).mono ?_; rintro e w3 ⟨rfl, hb3⟩; have c4' := (hb3.cell (p := ⟨w.heap.size, 4, none⟩) hlt).trans c4)
      all_goals go_ret
      all_goals exact ⟨by rw [← hR.out]; simp [offS], bl_trans hB2 hb3⟩)
  · cases off
    all_goals (
      go_wp2_with (go_at_call 62; refine (h2.out _).mono ?_; rintro e w3 ⟨rfl, hb3⟩; have c4' := (hb3.cell (p := ⟨w.heap.size, 4, none⟩) hlt).trans c4)
      all_goals go_ret
      all_goals exact ⟨by rw [← hR.out]; simp [offS], bl_trans hB2 hb3⟩)
  · cases off
    all_goals (
      go_wp2_with fail
      all_goals go_ret
      all_goals exact ⟨by rw [← hR.out]; simp [offS], hB2⟩)
  · have d0 : (k == 0) = false := by simpa using q0
    have d1 : (k == 1) = false := by simpa using q1
    have d2 : (k == 2) = false := by simpa using q2
    replace q0 := Lib.hid q0
    replace q1 := Lib.hid q1
    replace q2 := Lib.hid q2
    cases off
    all_goals (
      go_wp2_with (go_at_call 62; refine (h3.out _).mono ?_; rintro e w3 ⟨rfl, hb3⟩; have c4' := (hb3.cell (p := ⟨w.heap.size, 4, none⟩) hlt).trans c4)
      all_goals go_ret
      all_goals exact ⟨by rw [← hR.out]; simp [offS, q0.out, q1.out, q2.out], bl_trans hB2 hb3⟩)

/-! ### view's own -/
theorem rowS_three (a b c : ByteArray) : rowS [a, b, c] = a ++ (⟨#[32]⟩ ++ b) ++ (⟨#[32]⟩ ++ c) := by
  have h1 := rowS_snoc [a] b (by simp)
  have h2 := rowS_snoc [a, b] c (by simp)
  rw [rowS_one] at h1
  simp only [List.cons_append, List.nil_append] at h1 h2
  rw [h2, h1]
theorem rowS_four (a b c d : ByteArray) : rowS [a, b, c, d] = rowS [a, b, c] ++ (⟨#[32]⟩ ++ d) := rowS_snoc [a, b, c] d (by simp)
theorem cells_two_new (w : World) (a b : Value) (e : TypeId) : ∀ j u, [a, b][j]? = some u → (w.alloc (.cells #[a, b] e)).cell? ((⟨w.heap.size, 0, none⟩ : Addr).add j) = some u := fun j u h => by
  have e1 : (⟨w.heap.size, 0, none⟩ : Addr).add j = ⟨w.heap.size, j, none⟩ := by unfold Addr.add; by_cases hj : j = 0 <;> simp [hj]
  rw [e1]
  exact ((Blk.new w e [a, b]).cell j).trans h
theorem cells_two_at (w : World) (g : Nat) (a b : Value) (e : TypeId) (hg : g = w.heap.size) : ∀ j u, [a, b][j]? = some u → (w.alloc (.cells #[a, b] e)).cell? ((⟨g, 0, none⟩ : Addr).add j) = some u := by
  subst hg; exact cells_two_new w a b e
theorem strs_row {w : World} {base k : Nat} {v : Value} {ss : List ByteArray} (h : w.ownsRow base 9 1 v k (ss.map Value.string)) (hk : 0 < k) :
    ∃ g cap, v = .slice (some ⟨g, 0, none⟩) k cap ∧ k ≤ cap ∧ g < w.heap.size ∧ StrRow w g 0 ss := by
  have hk2 : k = ss.length := by have := h.1; simpa using this.symm
  rcases own_cells h with ⟨c, _, h0⟩ | ⟨g, cap, rfl, hcap, hg, hc⟩
  · omega
  · exact ⟨g, cap, rfl, hcap, hg, fun j x hj => hc j _ (by simp [hj])⟩
set_option maxHeartbeats 4000000 in
set_option maxRecDepth 100000 in
theorem break_walk (id k n : Int) (s1 s2 w1 : ByteArray) (hid : -9223372036854775808 ≤ id ∧ id ≤ 9223372036854775807) (cond : ByteArray) (off : Bool) (w : World) (R : ByteArray) (hR : offS off (rowS [s1, w1, s2]) = R) (hz : R.size ≤ 1000000)
    (hz3 : (rowS [s1, w1, s2]).size ≤ 1000000)
    (h1 : ∀ w', Below w.heap.size w w' → Calls Tryd.prog 16 #[.int .i64 id] w' fun e w2 => e = .returned (.string s1) ∧ Below w'.heap.size w' w2)
    (hk : (k = 0 ∧ w1 = ⟨#[99, 109, 100]⟩ ∧ ∀ w', Below w.heap.size w w' → Calls Tryd.prog 16 #[.int .i64 n] w' fun e w2 => e = .returned (.string s2) ∧ Below w'.heap.size w' w2) ∨
      (k = 1 ∧ w1 = ⟨#[108, 105, 110, 101]⟩ ∧ ∀ w', Below w.heap.size w w' → Calls Tryd.prog 16 #[.int .i64 n] w' fun e w2 => e = .returned (.string s2) ∧ Below w'.heap.size w' w2) ∨
      (k = 2 ∧ w1 = ⟨#[119, 97, 116, 99, 104]⟩ ∧ s2 = cond) ∨
      (k ≠ 0 ∧ k ≠ 1 ∧ k ≠ 2 ∧ w1 = ⟨#[107, 105, 110, 100]⟩ ∧ ∀ w', Below w.heap.size w w' → Calls Tryd.prog 16 #[.int .i64 k] w' fun e w2 => e = .returned (.string s2) ∧ Below w'.heap.size w' w2)) :
    Calls Tryd.prog 27 #[.agg #[.int .i64 id, .int .i64 k, .int .i64 n, .string cond, .bool off]] w fun e w' => e = .returned (.string R) ∧ Below w.heap.size w w' := by
  replace h1 := Lib.hid h1
  replace hR := Lib.hid hR
  obtain ⟨i0, hi, hz0, hz1, hz2⟩ := info_parts info9_
  have hbox := Lib.hid (Brk.new w 51 id k n cond off)
  go_enter Tryd.func27, Tryd.ntmps27
  go_wp2_with fail
  refine (h1.out _ (bl_alloc (Below.refl _ _) _)).mono ?_
  rintro e w2 ⟨rfl, hb2⟩
  have hB2 := bl_trans (bl_alloc (Below.refl w.heap.size w) _) hb2
  have hlt : w.heap.size < w2.heap.size := by have := hb2.size; simp at this; omega
  obtain ⟨c0, c1, c2, c3, c4⟩ := hbox.out.below (by simp) hb2
  have hown2 := World.ownsRow_lit (base := w2.heap.size) (e := 9) (size := 1) w2 #[.string s1] 1 (Nat.le_refl _) (by decide) rfl
  clear hb2 hbox h1
  replace hown2 := Lib.hid hown2
  rcases hk with ⟨rfl, rfl, h2⟩ | ⟨rfl, rfl, h2⟩ | ⟨rfl, rfl, rfl⟩ | ⟨q0, q1, q2, rfl, h2⟩
  · replace h2 := Lib.hid h2
    go_wp2_with fail
    refine (h2.out _ (bl_alloc hB2 _)).mono ?_
    rintro e w3 ⟨rfl, hb3⟩
    have hB3 : Below w2.heap.size w2 w3 := bl_trans (bl_alloc (Below.refl _ _) _) hb3
    have d4 := (hB3.cell (p := ⟨w.heap.size, 4, none⟩) hlt).trans c4
    have hown3 := Lib.hid (own_blw hown2.out hb3)
    have hlt3 : w.heap.size < w3.heap.size := Nat.lt_of_lt_of_le hlt hB3.size
    have hsz3 := hB3.size
    cases off
    · have hR' : rowS [s1, ⟨#[99, 109, 100]⟩, s2] = R := by rw [← hR.out]; simp [offS]
      go_wp2_with (first
        | (at_builtin; refine wpList_append_own _ rfl (.tmp 18) (.tmp 22) 68 rfl w2.heap.size 9 i0 (.string ⟨#[]⟩) 1 16 Tryd.underlying68 hi hz0 hz1 hz2 rfl (by decide) _ _ _ rfl (hown3.out.alloc _) ⟨w3.heap.size, 0, none⟩ 2 2 _ rfl rfl (cells_two_new _ _ _ _) (by intro u hu; simp at hu; rcases hu with rfl | rfl <;> rfl) (by decide) (by decide) (by simp; omega) ?_; intro v4 w4 hown4 hgrow4 _; have hB4 := (hB3.alloc hB3.size _).grown hgrow4 (by simp; omega) (fun j hj => (hown3.out.lt j hj).1); obtain ⟨g, cap, rfl, hcap, hg, hr⟩ := strs_row (ss := [s1, ⟨#[99, 109, 100]⟩, s2]) hown4 (by omega); have e4 := (hB4.cell (p := ⟨w.heap.size, 4, none⟩) hlt).trans c4; replace hr := Lib.hid hr; replace hown4 := Lib.hid hown4; have hlt4 : w.heap.size < w4.heap.size := Nat.lt_of_lt_of_le hlt hB4.size)
        | (go_at_call 61; refine (row_any [s1, ⟨#[99, 109, 100]⟩, s2] g cap _ hr.out hg (by simpa using hcap) (by simp) hz3).mono ?_; rintro e w7 ⟨rfl, hb7⟩))
      all_goals go_ret
      all_goals exact ⟨rfl, bl_trans (hB2.trans (hB4.mono hB2.size)) hb7⟩
    · have hR' : rowS [s1, ⟨#[99, 109, 100]⟩, s2, ⟨#[111, 102, 102]⟩] = R := by rw [← hR.out, rowS_four]; rfl
      have hz4 : (rowS [s1, ⟨#[99, 109, 100]⟩, s2, ⟨#[111, 102, 102]⟩]).size ≤ 1000000 := by rw [hR']; exact hz
      go_wp2_with (first
        | (at_builtin; refine wpList_append_own _ rfl (.tmp 18) (.tmp 22) 68 rfl w2.heap.size 9 i0 (.string ⟨#[]⟩) 1 16 Tryd.underlying68 hi hz0 hz1 hz2 rfl (by decide) _ _ _ rfl (hown3.out.alloc _) ⟨w3.heap.size, 0, none⟩ 2 2 _ rfl rfl (cells_two_new _ _ _ _) (by intro u hu; simp at hu; rcases hu with rfl | rfl <;> rfl) (by decide) (by decide) (by simp; omega) ?_; intro v4 w4 hown4 hgrow4 _; have hB4 := (hB3.alloc hB3.size _).grown hgrow4 (by simp; omega) (fun j hj => (hown3.out.lt j hj).1); obtain ⟨g, cap, rfl, hcap, hg, hr⟩ := strs_row (ss := [s1, ⟨#[99, 109, 100]⟩, s2]) hown4 (by omega); have e4 := (hB4.cell (p := ⟨w.heap.size, 4, none⟩) hlt).trans c4; replace hr := Lib.hid hr; replace hown4 := Lib.hid hown4; have hlt4 : w.heap.size < w4.heap.size := Nat.lt_of_lt_of_le hlt hB4.size)
        | (at_builtin; refine wpList_append_own _ rfl (.tmp 41) (.tmp 42) 68 rfl w2.heap.size 9 i0 (.string ⟨#[]⟩) 1 16 Tryd.underlying68 hi hz0 hz1 hz2 rfl (by decide) _ _ _ rfl (hown4.out.alloc _) ⟨w4.heap.size, 0, none⟩ 1 1 [.string ⟨#[111, 102, 102]⟩] rfl rfl (cell_one_new _ _ _) (by intro u hu; simp at hu; subst hu; rfl) (by decide) (by decide) (by have := hB4.size; simp; omega) ?_; intro v5 w5 hown5 hgrow5 _; have hB5 := (hB4.alloc hB4.size _).grown hgrow5 (by have := hB4.size; simp; omega) (fun j hj => (hown4.out.lt j hj).1); obtain ⟨g5, cap5, rfl, hcap5, hg5, hr5⟩ := strs_row (ss := [s1, ⟨#[99, 109, 100]⟩, s2, ⟨#[111, 102, 102]⟩]) hown5 (by omega); replace hr5 := Lib.hid hr5; clear hown5)
        | (go_at_call 61; refine (row_any [s1, ⟨#[99, 109, 100]⟩, s2, ⟨#[111, 102, 102]⟩] g5 cap5 _ hr5.out hg5 (by simpa using hcap5) (by simp) hz4).mono ?_; rintro e w7 ⟨rfl, hb7⟩))
      all_goals go_ret
      all_goals exact ⟨rfl, bl_trans (hB2.trans (hB5.mono hB2.size)) hb7⟩
  · replace h2 := Lib.hid h2
    go_wp2_with fail
    refine (h2.out _ (bl_alloc hB2 _)).mono ?_
    rintro e w3 ⟨rfl, hb3⟩
    have hB3 : Below w2.heap.size w2 w3 := bl_trans (bl_alloc (Below.refl _ _) _) hb3
    have d4 := (hB3.cell (p := ⟨w.heap.size, 4, none⟩) hlt).trans c4
    have hown3 := Lib.hid (own_blw hown2.out hb3)
    have hlt3 : w.heap.size < w3.heap.size := Nat.lt_of_lt_of_le hlt hB3.size
    have hsz3 := hB3.size
    cases off
    · have hR' : rowS [s1, ⟨#[108, 105, 110, 101]⟩, s2] = R := by rw [← hR.out]; simp [offS]
      go_wp2_with (first
        | (at_builtin; refine wpList_append_own _ rfl (.tmp 26) (.tmp 30) 68 rfl w2.heap.size 9 i0 (.string ⟨#[]⟩) 1 16 Tryd.underlying68 hi hz0 hz1 hz2 rfl (by decide) _ _ _ rfl (hown3.out.alloc _) ⟨w3.heap.size, 0, none⟩ 2 2 _ rfl rfl (cells_two_new _ _ _ _) (by intro u hu; simp at hu; rcases hu with rfl | rfl <;> rfl) (by decide) (by decide) (by simp; omega) ?_; intro v4 w4 hown4 hgrow4 _; have hB4 := (hB3.alloc hB3.size _).grown hgrow4 (by simp; omega) (fun j hj => (hown3.out.lt j hj).1); obtain ⟨g, cap, rfl, hcap, hg, hr⟩ := strs_row (ss := [s1, ⟨#[108, 105, 110, 101]⟩, s2]) hown4 (by omega); have e4 := (hB4.cell (p := ⟨w.heap.size, 4, none⟩) hlt).trans c4; replace hr := Lib.hid hr; replace hown4 := Lib.hid hown4; have hlt4 : w.heap.size < w4.heap.size := Nat.lt_of_lt_of_le hlt hB4.size)
        | (go_at_call 61; refine (row_any [s1, ⟨#[108, 105, 110, 101]⟩, s2] g cap _ hr.out hg (by simpa using hcap) (by simp) hz3).mono ?_; rintro e w7 ⟨rfl, hb7⟩))
      all_goals go_ret
      all_goals exact ⟨rfl, bl_trans (hB2.trans (hB4.mono hB2.size)) hb7⟩
    · have hR' : rowS [s1, ⟨#[108, 105, 110, 101]⟩, s2, ⟨#[111, 102, 102]⟩] = R := by rw [← hR.out, rowS_four]; rfl
      have hz4 : (rowS [s1, ⟨#[108, 105, 110, 101]⟩, s2, ⟨#[111, 102, 102]⟩]).size ≤ 1000000 := by rw [hR']; exact hz
      go_wp2_with (first
        | (at_builtin; refine wpList_append_own _ rfl (.tmp 26) (.tmp 30) 68 rfl w2.heap.size 9 i0 (.string ⟨#[]⟩) 1 16 Tryd.underlying68 hi hz0 hz1 hz2 rfl (by decide) _ _ _ rfl (hown3.out.alloc _) ⟨w3.heap.size, 0, none⟩ 2 2 _ rfl rfl (cells_two_new _ _ _ _) (by intro u hu; simp at hu; rcases hu with rfl | rfl <;> rfl) (by decide) (by decide) (by simp; omega) ?_; intro v4 w4 hown4 hgrow4 _; have hB4 := (hB3.alloc hB3.size _).grown hgrow4 (by simp; omega) (fun j hj => (hown3.out.lt j hj).1); obtain ⟨g, cap, rfl, hcap, hg, hr⟩ := strs_row (ss := [s1, ⟨#[108, 105, 110, 101]⟩, s2]) hown4 (by omega); have e4 := (hB4.cell (p := ⟨w.heap.size, 4, none⟩) hlt).trans c4; replace hr := Lib.hid hr; replace hown4 := Lib.hid hown4; have hlt4 : w.heap.size < w4.heap.size := Nat.lt_of_lt_of_le hlt hB4.size)
        | (at_builtin; refine wpList_append_own _ rfl (.tmp 41) (.tmp 42) 68 rfl w2.heap.size 9 i0 (.string ⟨#[]⟩) 1 16 Tryd.underlying68 hi hz0 hz1 hz2 rfl (by decide) _ _ _ rfl (hown4.out.alloc _) ⟨w4.heap.size, 0, none⟩ 1 1 [.string ⟨#[111, 102, 102]⟩] rfl rfl (cell_one_new _ _ _) (by intro u hu; simp at hu; subst hu; rfl) (by decide) (by decide) (by have := hB4.size; simp; omega) ?_; intro v5 w5 hown5 hgrow5 _; have hB5 := (hB4.alloc hB4.size _).grown hgrow5 (by have := hB4.size; simp; omega) (fun j hj => (hown4.out.lt j hj).1); obtain ⟨g5, cap5, rfl, hcap5, hg5, hr5⟩ := strs_row (ss := [s1, ⟨#[108, 105, 110, 101]⟩, s2, ⟨#[111, 102, 102]⟩]) hown5 (by omega); replace hr5 := Lib.hid hr5; clear hown5)
        | (go_at_call 61; refine (row_any [s1, ⟨#[108, 105, 110, 101]⟩, s2, ⟨#[111, 102, 102]⟩] g5 cap5 _ hr5.out hg5 (by simpa using hcap5) (by simp) hz4).mono ?_; rintro e w7 ⟨rfl, hb7⟩))
      all_goals go_ret
      all_goals exact ⟨rfl, bl_trans (hB2.trans (hB5.mono hB2.size)) hb7⟩
  · have hB3 : Below w2.heap.size w2 (w2.alloc (.cells #[.string s1] 9)) := bl_alloc (Below.refl _ _) _
    have hown3 := hown2
    cases off
    · have hR' : rowS [s1, ⟨#[119, 97, 116, 99, 104]⟩, s2] = R := by rw [← hR.out]; simp [offS]
      go_wp2_with (first
        | (at_builtin; refine wpList_append_own _ rfl (.tmp 34) (.tmp 37) 68 rfl w2.heap.size 9 i0 (.string ⟨#[]⟩) 1 16 Tryd.underlying68 hi hz0 hz1 hz2 rfl (by decide) _ _ _ rfl (hown3.out.alloc _) ⟨w2.heap.size + 1, 0, none⟩ 2 2 _ rfl rfl (cells_two_at _ _ _ _ _ (by simp)) (by intro u hu; simp at hu; rcases hu with rfl | rfl <;> rfl) (by decide) (by decide) (by simp; omega) ?_; intro v4 w4 hown4 hgrow4 _; have hB4 := (hB3.alloc hB3.size _).grown hgrow4 (by simp; omega) (fun j hj => (hown3.out.lt j hj).1); obtain ⟨g, cap, rfl, hcap, hg, hr⟩ := strs_row (ss := [s1, ⟨#[119, 97, 116, 99, 104]⟩, s2]) hown4 (by omega); have e4 := (hB4.cell (p := ⟨w.heap.size, 4, none⟩) hlt).trans c4; replace hr := Lib.hid hr; replace hown4 := Lib.hid hown4; have hlt4 : w.heap.size < w4.heap.size := Nat.lt_of_lt_of_le hlt hB4.size)
        | (go_at_call 61; refine (row_any [s1, ⟨#[119, 97, 116, 99, 104]⟩, s2] g cap _ hr.out hg (by simpa using hcap) (by simp) hz3).mono ?_; rintro e w7 ⟨rfl, hb7⟩))
      all_goals go_ret
      all_goals exact ⟨rfl, bl_trans (hB2.trans (hB4.mono hB2.size)) hb7⟩
    · have hR' : rowS [s1, ⟨#[119, 97, 116, 99, 104]⟩, s2, ⟨#[111, 102, 102]⟩] = R := by rw [← hR.out, rowS_four]; rfl
      have hz4 : (rowS [s1, ⟨#[119, 97, 116, 99, 104]⟩, s2, ⟨#[111, 102, 102]⟩]).size ≤ 1000000 := by rw [hR']; exact hz
      go_wp2_with (first
        | (at_builtin; refine wpList_append_own _ rfl (.tmp 34) (.tmp 37) 68 rfl w2.heap.size 9 i0 (.string ⟨#[]⟩) 1 16 Tryd.underlying68 hi hz0 hz1 hz2 rfl (by decide) _ _ _ rfl (hown3.out.alloc _) ⟨w2.heap.size + 1, 0, none⟩ 2 2 _ rfl rfl (cells_two_at _ _ _ _ _ (by simp)) (by intro u hu; simp at hu; rcases hu with rfl | rfl <;> rfl) (by decide) (by decide) (by simp; omega) ?_; intro v4 w4 hown4 hgrow4 _; have hB4 := (hB3.alloc hB3.size _).grown hgrow4 (by simp; omega) (fun j hj => (hown3.out.lt j hj).1); obtain ⟨g, cap, rfl, hcap, hg, hr⟩ := strs_row (ss := [s1, ⟨#[119, 97, 116, 99, 104]⟩, s2]) hown4 (by omega); have e4 := (hB4.cell (p := ⟨w.heap.size, 4, none⟩) hlt).trans c4; replace hr := Lib.hid hr; replace hown4 := Lib.hid hown4; have hlt4 : w.heap.size < w4.heap.size := Nat.lt_of_lt_of_le hlt hB4.size)
        | (at_builtin; refine wpList_append_own _ rfl (.tmp 41) (.tmp 42) 68 rfl w2.heap.size 9 i0 (.string ⟨#[]⟩) 1 16 Tryd.underlying68 hi hz0 hz1 hz2 rfl (by decide) _ _ _ rfl (hown4.out.alloc _) ⟨w4.heap.size, 0, none⟩ 1 1 [.string ⟨#[111, 102, 102]⟩] rfl rfl (cell_one_new _ _ _) (by intro u hu; simp at hu; subst hu; rfl) (by decide) (by decide) (by have := hB4.size; simp; omega) ?_; intro v5 w5 hown5 hgrow5 _; have hB5 := (hB4.alloc hB4.size _).grown hgrow5 (by have := hB4.size; simp; omega) (fun j hj => (hown4.out.lt j hj).1); obtain ⟨g5, cap5, rfl, hcap5, hg5, hr5⟩ := strs_row (ss := [s1, ⟨#[119, 97, 116, 99, 104]⟩, s2, ⟨#[111, 102, 102]⟩]) hown5 (by omega); replace hr5 := Lib.hid hr5; clear hown5)
        | (go_at_call 61; refine (row_any [s1, ⟨#[119, 97, 116, 99, 104]⟩, s2, ⟨#[111, 102, 102]⟩] g5 cap5 _ hr5.out hg5 (by simpa using hcap5) (by simp) hz4).mono ?_; rintro e w7 ⟨rfl, hb7⟩))
      all_goals go_ret
      all_goals exact ⟨rfl, bl_trans (hB2.trans (hB5.mono hB2.size)) hb7⟩
  · replace h2 := Lib.hid h2
    have d0 : (k == 0) = false := by simpa using q0
    have d1 : (k == 1) = false := by simpa using q1
    have d2 : (k == 2) = false := by simpa using q2
    replace q0 := Lib.hid q0
    replace q1 := Lib.hid q1
    replace q2 := Lib.hid q2
    go_wp2_with fail
    refine (h2.out _ (bl_alloc hB2 _)).mono ?_
    rintro e w3 ⟨rfl, hb3⟩
    have hB3 : Below w2.heap.size w2 w3 := bl_trans (bl_alloc (Below.refl _ _) _) hb3
    have d4 := (hB3.cell (p := ⟨w.heap.size, 4, none⟩) hlt).trans c4
    have hown3 := Lib.hid (own_blw hown2.out hb3)
    have hlt3 : w.heap.size < w3.heap.size := Nat.lt_of_lt_of_le hlt hB3.size
    have hsz3 := hB3.size
    cases off
    · have hR' : rowS [s1, ⟨#[107, 105, 110, 100]⟩, s2] = R := by rw [← hR.out]; simp [offS]
      go_wp2_with (first
        | (at_builtin; refine wpList_append_own _ rfl (.tmp 10) (.tmp 14) 68 rfl w2.heap.size 9 i0 (.string ⟨#[]⟩) 1 16 Tryd.underlying68 hi hz0 hz1 hz2 rfl (by decide) _ _ _ rfl (hown3.out.alloc _) ⟨w3.heap.size, 0, none⟩ 2 2 _ rfl rfl (cells_two_new _ _ _ _) (by intro u hu; simp at hu; rcases hu with rfl | rfl <;> rfl) (by decide) (by decide) (by simp; omega) ?_; intro v4 w4 hown4 hgrow4 _; have hB4 := (hB3.alloc hB3.size _).grown hgrow4 (by simp; omega) (fun j hj => (hown3.out.lt j hj).1); obtain ⟨g, cap, rfl, hcap, hg, hr⟩ := strs_row (ss := [s1, ⟨#[107, 105, 110, 100]⟩, s2]) hown4 (by omega); have e4 := (hB4.cell (p := ⟨w.heap.size, 4, none⟩) hlt).trans c4; replace hr := Lib.hid hr; replace hown4 := Lib.hid hown4; have hlt4 : w.heap.size < w4.heap.size := Nat.lt_of_lt_of_le hlt hB4.size)
        | (go_at_call 61; refine (row_any [s1, ⟨#[107, 105, 110, 100]⟩, s2] g cap _ hr.out hg (by simpa using hcap) (by simp) hz3).mono ?_; rintro e w7 ⟨rfl, hb7⟩))
      all_goals go_ret
      all_goals exact ⟨rfl, bl_trans (hB2.trans (hB4.mono hB2.size)) hb7⟩
    · have hR' : rowS [s1, ⟨#[107, 105, 110, 100]⟩, s2, ⟨#[111, 102, 102]⟩] = R := by rw [← hR.out, rowS_four]; rfl
      have hz4 : (rowS [s1, ⟨#[107, 105, 110, 100]⟩, s2, ⟨#[111, 102, 102]⟩]).size ≤ 1000000 := by rw [hR']; exact hz
      go_wp2_with (first
        | (at_builtin; refine wpList_append_own _ rfl (.tmp 10) (.tmp 14) 68 rfl w2.heap.size 9 i0 (.string ⟨#[]⟩) 1 16 Tryd.underlying68 hi hz0 hz1 hz2 rfl (by decide) _ _ _ rfl (hown3.out.alloc _) ⟨w3.heap.size, 0, none⟩ 2 2 _ rfl rfl (cells_two_new _ _ _ _) (by intro u hu; simp at hu; rcases hu with rfl | rfl <;> rfl) (by decide) (by decide) (by simp; omega) ?_; intro v4 w4 hown4 hgrow4 _; have hB4 := (hB3.alloc hB3.size _).grown hgrow4 (by simp; omega) (fun j hj => (hown3.out.lt j hj).1); obtain ⟨g, cap, rfl, hcap, hg, hr⟩ := strs_row (ss := [s1, ⟨#[107, 105, 110, 100]⟩, s2]) hown4 (by omega); have e4 := (hB4.cell (p := ⟨w.heap.size, 4, none⟩) hlt).trans c4; replace hr := Lib.hid hr; replace hown4 := Lib.hid hown4; have hlt4 : w.heap.size < w4.heap.size := Nat.lt_of_lt_of_le hlt hB4.size)
        | (at_builtin; refine wpList_append_own _ rfl (.tmp 41) (.tmp 42) 68 rfl w2.heap.size 9 i0 (.string ⟨#[]⟩) 1 16 Tryd.underlying68 hi hz0 hz1 hz2 rfl (by decide) _ _ _ rfl (hown4.out.alloc _) ⟨w4.heap.size, 0, none⟩ 1 1 [.string ⟨#[111, 102, 102]⟩] rfl rfl (cell_one_new _ _ _) (by intro u hu; simp at hu; subst hu; rfl) (by decide) (by decide) (by have := hB4.size; simp; omega) ?_; intro v5 w5 hown5 hgrow5 _; have hB5 := (hB4.alloc hB4.size _).grown hgrow5 (by have := hB4.size; simp; omega) (fun j hj => (hown4.out.lt j hj).1); obtain ⟨g5, cap5, rfl, hcap5, hg5, hr5⟩ := strs_row (ss := [s1, ⟨#[107, 105, 110, 100]⟩, s2, ⟨#[111, 102, 102]⟩]) hown5 (by omega); replace hr5 := Lib.hid hr5; clear hown5)
        | (go_at_call 61; refine (row_any [s1, ⟨#[107, 105, 110, 100]⟩, s2, ⟨#[111, 102, 102]⟩] g5 cap5 _ hr5.out hg5 (by simpa using hcap5) (by simp) hz4).mono ?_; rintro e w7 ⟨rfl, hb7⟩))
      all_goals go_ret
      all_goals exact ⟨rfl, bl_trans (hB2.trans (hB5.mono hB2.size)) hb7⟩
end Go.Proofs.YtjfpepinmbbnbaaDoor
