/-
  What is said of where a machine is (the reference's Where, view.phase), of chapter 30.
  Conditions: the table of powers of ten lies as laid ('Pow').
-/
import Derived.Test.YtjfpepinmbbnbaaDoorStAt
namespace Go.Proofs.YtjfpepinmbbnbaaDoor
open Go.RowKit
set_option linter.unusedVariables false
set_option linter.unusedSimpArgs false
abbrev I64 (n : Int) : Prop := -9223372036854775808 ≤ n ∧ n ≤ 9223372036854775807
/-- a phase's name -/
def phaseS (n : Int) : ByteArray := if n = 0 then ⟨#[98, 101, 103, 105, 110]⟩ else if n = 1 then ⟨#[98, 111, 100, 121]⟩ else if n = 2 then ⟨#[101, 110, 100, 105, 110, 103]⟩ else if n = 3 then ⟨#[104, 97, 108, 116, 101, 100]⟩ else txt n
def whL (n : Int) (s : StC) : List ByteArray := [⟨#[115, 116, 101, 112]⟩, txt n, ⟨#[108, 105, 110, 101]⟩, txt s.line, ⟨#[112, 99]⟩, txt s.pc, ⟨#[112, 104, 97, 115, 101]⟩, phaseS s.phase]
def whX (s : StC) : List ByteArray := [⟨#[101, 120, 105, 116]⟩, txt s.exit]
def whE (s : StC) : List ByteArray := [⟨#[101, 114, 114, 111, 114]⟩, txt s.err, ⟨#[97, 116]⟩, txt s.stop]
/-- the words that tell where a machine is -/
def whAll (n : Int) (s : StC) : List ByteArray := if s.phase = 3 then (if s.err = 0 then whL n s ++ whX s else whL n s ++ whX s ++ whE s) else whL n s
theorem rowS_fold (x : ByteArray) (l : List ByteArray) : rowS (x :: l) = l.foldl (fun s y => s ++ (⟨#[32]⟩ ++ y)) x := by
  obtain ⟨r, rfl⟩ : ∃ r : List ByteArray, l = r.reverse := ⟨l.reverse, by simp⟩
  induction r with
  | nil => exact rowS_one x
  | cons y r ih =>
    rw [List.reverse_cons, List.foldl_append, ← ih, ← List.cons_append, rowS_snoc _ _ (by simp)]
    rfl
/-- the same in the reference's letters -/
def whR (n : Int) (s : StC) : ByteArray := ⟨#[115, 116, 101, 112]⟩ ++ numW n ++ ⟨#[32, 108, 105, 110, 101]⟩ ++ numW s.line ++ ⟨#[32, 112, 99]⟩ ++ numW s.pc ++ ⟨#[32, 112, 104, 97, 115, 101]⟩
theorem whL_row (n : Int) (s : StC) : rowS (whL n s) = whR n s ++ (⟨#[32]⟩ ++ phaseS s.phase) := by
  rw [whL, rowS_fold]; rfl
theorem whX_row (n : Int) (s : StC) : rowS (whL n s ++ whX s) = whR n s ++ (⟨#[32]⟩ ++ phaseS s.phase) ++ ⟨#[32, 101, 120, 105, 116]⟩ ++ numW s.exit := by
  rw [whL, whX, List.cons_append, rowS_fold]; rfl
theorem whE_row (n : Int) (s : StC) : rowS (whL n s ++ whX s ++ whE s) = whR n s ++ (⟨#[32]⟩ ++ phaseS s.phase) ++ ⟨#[32, 101, 120, 105, 116]⟩ ++ numW s.exit ++ ⟨#[32, 101, 114, 114, 111, 114]⟩ ++ numW s.err ++ ⟨#[32, 97, 116]⟩ ++ numW s.stop := by
  rw [whL, whX, whE, List.cons_append, List.cons_append, rowS_fold]; rfl
theorem whX_row3 (n : Int) (s : StC) (h : s.phase = 3) : rowS (whL n s ++ whX s) = whR n s ++ ⟨#[32, 104, 97, 108, 116, 101, 100, 32, 101, 120, 105, 116]⟩ ++ numW s.exit := by
  rw [whX_row, h, ByteArray.append_assoc (a := whR n s)]; rfl
theorem whE_row3 (n : Int) (s : StC) (h : s.phase = 3) : rowS (whL n s ++ whX s ++ whE s) = whR n s ++ ⟨#[32, 104, 97, 108, 116, 101, 100, 32, 101, 120, 105, 116]⟩ ++ numW s.exit ++ ⟨#[32, 101, 114, 114, 111, 114]⟩ ++ numW s.err ++ ⟨#[32, 97, 116]⟩ ++ numW s.stop := by
  rw [whE_row, h, ByteArray.append_assoc (a := whR n s)]; rfl
theorem phaseS_le (n : Int) (h : I64 n) : (phaseS n).size ≤ 30 := by
  unfold phaseS
  have := txt_size n h
  repeat' split
  all_goals first | omega | decide
structure StC.W (s : StC) : Prop where
  line : I64 s.line
  pc : I64 s.pc
  phase : I64 s.phase
  exit : I64 s.exit
  stop : I64 s.stop
  err : I64 s.err
theorem whAll_le (n : Int) (s : StC) (hn : I64 n) (h : s.W) : ∀ x ∈ whL n s ++ whX s ++ whE s, x.size ≤ 30 := by
  have h0 := txt_size _ hn
  have h1 := txt_size _ h.line
  have h2 := txt_size _ h.pc
  have h3 := phaseS_le _ h.phase
  have h4 := txt_size _ h.exit
  have h5 := txt_size _ h.err
  have h6 := txt_size _ h.stop
  intro x hx
  simp only [whL, whX, whE, List.cons_append, List.nil_append, List.mem_cons, List.not_mem_nil, or_false] at hx
  rcases hx with rfl | rfl | rfl | rfl | rfl | rfl | rfl | rfl | rfl | rfl | rfl | rfl | rfl | rfl <;> first | omega | decide
theorem wh_le (n : Int) (s : StC) (hn : I64 n) (h : s.W) (l : List ByteArray) (hl : l = whL n s ∨ l = whL n s ++ whX s ∨ l = whL n s ++ whX s ++ whE s) : (rowS l).size ≤ 1000000 := by
  have hm : ∀ x ∈ l, x.size ≤ 30 := fun x hx => whAll_le n s hn h x (by
    rcases hl with rfl | rfl | rfl
    · simp [hx]
    · rw [List.mem_append]; exact .inl hx
    · exact hx)
  have hlen : l.length ≤ 14 := by rcases hl with rfl | rfl | rfl <;> simp [whL, whX, whE]
  have := rowS_le l 30 hm
  have : l.length * (30 + 1) ≤ 14 * 31 := Nat.mul_le_mul hlen (Nat.le_refl _)
  omega
set_option maxHeartbeats 1000000 in
theorem phase_any (n : Int) (hn : I64 n) (w : World) (hp : Pow w) : Calls Tryd.prog 70 #[.int .i64 n] w fun e w' => e = .returned (.string (phaseS n)) ∧ Below w.heap.size w w' := by
  have ht := Lib.hid (fun w' (h : Below w.heap.size w w') => text_any n hn w' (hp.below h))
  obtain ⟨R, hR⟩ : ∃ R, phaseS n = R := ⟨_, rfl⟩
  rw [hR]
  unfold phaseS at hR
  have h4 : n = 0 ∨ n = 1 ∨ n = 2 ∨ n = 3 ∨ (n < 0 ∨ 3 < n) := by omega
  replace hR := Lib.hid hR
  rcases h4 with rfl | rfl | rfl | rfl | h4
  iterate 4
    · go_enter Tryd.func70, Tryd.ntmps70
      go_wp2_with fail
      all_goals go_ret
      all_goals exact ⟨by rw [← hR.out]; rfl, bl_alloc (Below.refl _ _) _⟩
  · have e : txt n = R := by rw [← hR.out, if_neg (by omega), if_neg (by omega), if_neg (by omega), if_neg (by omega)]
    replace e := Lib.hid e
    rcases h4 with h4 | h4
    · go_enter Tryd.func70, Tryd.ntmps70
      go_wp2_with (go_at_call 16; refine (ht.out _ (bl_alloc (Below.refl _ _) _)).mono ?_; rintro e w2 ⟨rfl, hb2⟩)
      all_goals go_ret
      all_goals exact ⟨by rw [e.out]; rfl, bl_trans (bl_alloc (Below.refl _ _) _) hb2⟩
    · have h5 : ¬ n < 0 := by omega
      go_enter Tryd.func70, Tryd.ntmps70
      go_wp2_with (go_at_call 16; refine (ht.out _ (bl_alloc (Below.refl _ _) _)).mono ?_; rintro e w2 ⟨rfl, hb2⟩)
      all_goals go_ret
      all_goals exact ⟨by rw [e.out]; rfl, bl_trans (bl_alloc (Below.refl _ _) _) hb2⟩
end Go.Proofs.YtjfpepinmbbnbaaDoor
