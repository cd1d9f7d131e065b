/-
  The walk of the law ViewBreaks, of chapter 30.
  Conditions: the table of powers of ten lies as laid ('Pow').
-/
import Derived.Test.YtjfpepinmbbnbaaDoorView1
import Derived.Test.YtjfpepinmbbnbaaDoorReads
import Derived.Deep.RegionHeld3
namespace Go.Proofs.YtjfpepinmbbnbaaDoor
open Go.RowKit
set_option linter.unusedVariables false
set_option linter.unusedSimpArgs false
theorem txt_0 : txt 0 = ⟨#[48]⟩ := by simp [txt, Lib.itoa, Lib.decDigits]
theorem txt_3 : txt 3 = ⟨#[51]⟩ := by simp [txt, Lib.itoa, Lib.decDigits]
set_option maxHeartbeats 1000000 in
theorem phase_0 (w : World) : Calls Tryd.prog 70 #[.int .i64 0] w fun e w' => e = .returned (.string ⟨#[98, 101, 103, 105, 110]⟩) ∧ Below w.heap.size w w' := by
  go_enter Tryd.func70, Tryd.ntmps70
  go_wp2_with fail
  all_goals go_ret
  all_goals exact ⟨rfl, bl_alloc (Below.refl _ _) _⟩
def zState : Array Value := #[Value.slice none 0 0, Value.slice none 0 0, Value.bool false, Value.int IntKind.i64 0, Value.bool false,
          Value.int IntKind.i64 0, Value.int IntKind.i64 0, Value.int IntKind.i64 0, Value.int IntKind.i64 0,
          Value.int IntKind.i64 0, Value.slice none 0 0, Value.slice none 0 0, Value.bool false, Value.slice none 0 0,
          Value.bool false, Value.int IntKind.i64 0, Value.int IntKind.i64 0, Value.int IntKind.i64 0,
          Value.int IntKind.i64 0, Value.int IntKind.i64 0, Value.bool false, Value.bool false, Value.bool false,
          Value.slice none 0 0, Value.slice none 0 0, Value.slice none 0 0, Value.slice none 0 0]
def whereL : List ByteArray := [⟨#[115, 116, 101, 112]⟩, ⟨#[51]⟩, ⟨#[108, 105, 110, 101]⟩, ⟨#[48]⟩, ⟨#[112, 99]⟩, ⟨#[48]⟩, ⟨#[112, 104, 97, 115, 101]⟩, ⟨#[98, 101, 103, 105, 110]⟩]
theorem where_row : rowS whereL = ⟨#[115, 116, 101, 112, 32, 51, 32, 108, 105, 110, 101, 32, 48, 32, 112, 99, 32, 48, 32, 112, 104, 97, 115, 101, 32, 98, 101, 103, 105, 110]⟩ := rfl
theorem strRow_new (w : World) (g : Nat) (hg : g = w.heap.size) (e : TypeId) (ss : List ByteArray) : StrRow (w.alloc (.cells (ss.map Value.string).toArray e)) g 0 ss := fun j x h => by
  subst hg
  have hb := (Blk.new w e (ss.map Value.string)).cell (0 + j)
  rw [hb]
  simp [h]
theorem where_call (w : World) (g : Nat) (hg : g = w.heap.size) (e : TypeId) : Calls Tryd.prog 61 #[.slice (some ⟨g, 0, none⟩) 8 8] (w.alloc (.cells #[.string ⟨#[115, 116, 101, 112]⟩, .string ⟨#[51]⟩, .string ⟨#[108, 105, 110, 101]⟩, .string ⟨#[48]⟩, .string ⟨#[112, 99]⟩, .string ⟨#[48]⟩, .string ⟨#[112, 104, 97, 115, 101]⟩, .string ⟨#[98, 101, 103, 105, 110]⟩] e)) fun e' w' =>
    e' = .returned (.string ⟨#[115, 116, 101, 112, 32, 51, 32, 108, 105, 110, 101, 32, 48, 32, 112, 99, 32, 48, 32, 112, 104, 97, 115, 101, 32, 98, 101, 103, 105, 110]⟩) ∧ Below w.heap.size w w' := by
  refine (row_any whereL g 8 _ (strRow_new w g hg e whereL) (by subst hg; simp) (by decide) (by decide) (by rw [where_row]; decide)).mono ?_
  rintro e w' ⟨rfl, hb⟩
  exact ⟨rfl, bl_trans (bl_alloc (Below.refl _ _) _) hb⟩
/-- the elder world lies as it lay; the state's three cells -/
def SG (W1 : World) (g : Nat) (w' : World) : Prop := Below W1.heap.size W1 w' ∧ w'.cell? ⟨g, 3, none⟩ = some (.int .i64 0) ∧ w'.cell? ⟨g, 15, none⟩ = some (.int .i64 0) ∧ w'.cell? ⟨g, 16, none⟩ = some (.int .i64 0)
theorem SG.step {W1 : World} {g : Nat} {w' w2 : World} (hg : g < W1.heap.size) (h : SG W1 g w') (hb : Below w'.heap.size w' w2) : SG W1 g w2 := by
  obtain ⟨h0, h1, h2, h3⟩ := h
  have hl : g < w'.heap.size := Nat.lt_of_lt_of_le hg h0.size
  exact ⟨bl_trans h0 hb, (hb.cell (p := ⟨g, 3, none⟩) hl).trans h1, (hb.cell (p := ⟨g, 15, none⟩) hl).trans h2, (hb.cell (p := ⟨g, 16, none⟩) hl).trans h3⟩
set_option maxHeartbeats 4000000 in
set_option maxRecDepth 100000 in
theorem where_0 (w : World) (hp : Pow w) : Calls Tryd.prog 35 #[.int .i64 3, .agg zState] w fun e w' =>
    e = .returned (.string ⟨#[115, 116, 101, 112, 32, 51, 32, 108, 105, 110, 101, 32, 48, 32, 112, 99, 32, 48, 32, 112, 104, 97, 115, 101, 32, 98, 101, 103, 105, 110]⟩) ∧ Below w.heap.size w w' := by
  have hz := (Blk.new w 66 zState.toList).cell
  rw [Array.toArray_toList] at hz
  have c3 := hz 3
  have c15 := hz 15
  have c16 := hz 16
  have hlt : w.heap.size < (w.alloc (.cells zState 66)).heap.size := by simp
  have hb1 : Below w.heap.size w (w.alloc (.cells zState 66)) := bl_alloc (Below.refl _ _) _
  obtain ⟨W1, hW1⟩ : ∃ W1, w.alloc (.cells zState 66) = W1 := ⟨_, rfl⟩
  rw [hW1] at c3 c15 c16 hlt hb1
  replace c3 : W1.cell? ⟨w.heap.size, 3, none⟩ = some (.int .i64 0) := c3
  replace c15 : W1.cell? ⟨w.heap.size, 15, none⟩ = some (.int .i64 0) := c15
  replace c16 : W1.cell? ⟨w.heap.size, 16, none⟩ = some (.int .i64 0) := c16
  clear hz
  have s1 : SG W1 w.heap.size W1 := ⟨Below.refl _ _, c3, c15, c16⟩
  have hst := Lib.hid (fun (w' w2 : World) (h : SG W1 w.heap.size w') (hb : Below w'.heap.size w' w2) => h.step hlt hb)
  have t3 := Lib.hid (fun w' (h : SG W1 w.heap.size w') => (text_any 3 (by decide) w' (hp.below (bl_trans hb1 h.1))).mono (R' := fun e w2 => e = .returned (.string (txt 3)) ∧ SG W1 w.heap.size w2) (fun e w2 he => ⟨he.1, h.step hlt he.2⟩))
  have t0 := Lib.hid (fun w' (h : SG W1 w.heap.size w') => (text_any 0 (by decide) w' (hp.below (bl_trans hb1 h.1))).mono (R' := fun e w2 => e = .returned (.string (txt 0)) ∧ SG W1 w.heap.size w2) (fun e w2 he => ⟨he.1, h.step hlt he.2⟩))
  have tp := Lib.hid (fun w' (h : SG W1 w.heap.size w') => (phase_0 w').mono (R' := fun e w2 => e = .returned (.string ⟨#[98, 101, 103, 105, 110]⟩) ∧ SG W1 w.heap.size w2) (fun e w2 he => ⟨he.1, h.step hlt he.2⟩))
  rw [txt_3] at t3
  rw [txt_0] at t0
  unfold zState at hW1 ⊢
  go_enter Tryd.func35, Tryd.ntmps35
  go_wp2_with fail
  clear hW1
  have s1' : SG W1 w.heap.size W1.drew := s1.step hlt (bl_drew (Below.refl _ _))
  clear s1 c3 c15 c16
  go_region_held3 (fun w' => Below W1.heap.size W1 w' ∧ w'.cell? ⟨w.heap.size, 3, none⟩ = some (.int .i64 0) ∧ w'.cell? ⟨w.heap.size, 15, none⟩ = some (.int .i64 0) ∧ w'.cell? ⟨w.heap.size, 16, none⟩ = some (.int .i64 0)) (first | exact s1' | exact hs | exact hst.out _ _ hs (bl_alloc (Below.refl _ _) _))
    (first
    | (go_at_call 16; (first | (refine (t3.out _ s1').mono ?_; rintro e w2 ⟨rfl, hs⟩) | (refine (t0.out _ hs).mono ?_; rintro e w3 ⟨rfl, hs⟩)))
    | (go_at_call 70; refine (tp.out _ hs).mono ?_; rintro e w5 ⟨rfl, hs⟩))
  all_goals go_wp2_with (go_at_call 61; refine (where_call _ _ (by simp) _).mono ?_; rintro e w6 ⟨rfl, hb6⟩)
  all_goals go_ret
  all_goals exact ⟨rfl, hb1.trans ((bl_trans hs.1 hb6).mono hb1.size)⟩
set_option maxHeartbeats 2000000 in
set_option maxRecDepth 100000 in
theorem awake30 (w : World) (hp : Pow w) : Calls Tryd.prog 26 #[] w fun e w' => e = .returned (.bool true) ∧ Below w.heap.size w w' := by
  have h := where_0 w hp
  unfold zState at h
  replace h := Lib.hid h
  go_enter Tryd.func26, Tryd.ntmps26
  go_wp2_with (go_at_call 35; refine h.out.mono ?_; rintro e w2 ⟨rfl, hb2⟩)
  all_goals go_ret
  all_goals exact ⟨rfl, hb2⟩
theorem word_len (s1 w1 s2 : ByteArray) (off : Bool) (z1 : s1.size ≤ 100) (zw : w1.size ≤ 100) (z2 : s2.size ≤ 400) : (rowS [s1, w1, s2]).size ≤ 1000000 ∧ (offS off (rowS [s1, w1, s2])).size ≤ 1000000 := by
  have h : (rowS [s1, w1, s2]).size ≤ 1000 := by
    rw [rowS_three]
    simp only [vba_size]
    have : (⟨#[32]⟩ : ByteArray).size = 1 := rfl
    omega
  refine ⟨by omega, ?_⟩
  cases off with
  | false => show (rowS [s1, w1, s2]).size ≤ 1000000; omega
  | true =>
    show (rowS [s1, w1, s2] ++ ⟨#[32, 111, 102, 102]⟩).size ≤ 1000000
    have : (⟨#[32, 111, 102, 102]⟩ : ByteArray).size = 4 := rfl
    rw [vba_size]; omega
theorem break_any (id k n : Int) (hid : -9223372036854775808 ≤ id ∧ id ≤ 9223372036854775807) (hk : -9223372036854775808 ≤ k ∧ k ≤ 9223372036854775807) (hn : -9223372036854775808 ≤ n ∧ n ≤ 9223372036854775807) (cond : ByteArray) (hc : cond.size ≤ 300) (off : Bool) (w : World) (hp : Pow w) :
    Calls Tryd.prog 27 #[.agg #[.int .i64 id, .int .i64 k, .int .i64 n, .string cond, .bool off]] w fun e w' => e = .returned (.string (breakS id k n cond off)) ∧ Below w.heap.size w w' := by
  have h1 := fun w' (h : Below w.heap.size w w') => text_any id hid w' (hp.below h)
  have h2 := fun w' (h : Below w.heap.size w w') => text_any n hn w' (hp.below h)
  have h3 := fun w' (h : Below w.heap.size w w') => text_any k hk w' (hp.below h)
  have z1 := txt_size id hid
  have z2 := txt_size n hn
  have z3 := txt_size k hk
  have sp : ∀ (a b c d : ByteArray), (⟨#[32]⟩ : ByteArray) ++ b = d → a ++ (⟨#[32]⟩ ++ b) ++ (⟨#[32]⟩ ++ c) = a ++ d ++ (⟨#[32]⟩ ++ c) := fun a b c d h => by rw [h]
  by_cases k0 : k = 0
  · obtain ⟨q1, q2⟩ := word_len (txt id) ⟨#[99, 109, 100]⟩ (txt n) off (by omega) (by decide) (by omega)
    exact break_walk id k n (txt id) (txt n) _ hid cond off w _ (by unfold breakS; rw [if_pos k0, rowS_three]; rfl) (by
      have : breakS id k n cond off = offS off (rowS [txt id, ⟨#[99, 109, 100]⟩, txt n]) := by unfold breakS; rw [if_pos k0, rowS_three]; rfl
      rw [this]; exact q2) q1 h1 (.inl ⟨k0, rfl, h2⟩)
  by_cases k1 : k = 1
  · obtain ⟨q1, q2⟩ := word_len (txt id) ⟨#[108, 105, 110, 101]⟩ (txt n) off (by omega) (by decide) (by omega)
    exact break_walk id k n (txt id) (txt n) _ hid cond off w _ (by unfold breakS; rw [if_neg k0, if_pos k1, rowS_three]; rfl) (by
      have : breakS id k n cond off = offS off (rowS [txt id, ⟨#[108, 105, 110, 101]⟩, txt n]) := by unfold breakS; rw [if_neg k0, if_pos k1, rowS_three]; rfl
      rw [this]; exact q2) q1 h1 (.inr (.inl ⟨k1, rfl, h2⟩))
  by_cases k2 : k = 2
  · obtain ⟨q1, q2⟩ := word_len (txt id) ⟨#[119, 97, 116, 99, 104]⟩ cond off (by omega) (by decide) (by omega)
    have e : offS off (rowS [txt id, ⟨#[119, 97, 116, 99, 104]⟩, cond]) = breakS id k n cond off := by
      unfold breakS
      rw [if_neg k0, if_neg k1, if_pos k2, rowS_three]
      have e1 : (⟨#[32, 119, 97, 116, 99, 104, 32]⟩ : ByteArray) = ⟨#[32]⟩ ++ ⟨#[119, 97, 116, 99, 104]⟩ ++ ⟨#[32]⟩ := rfl
      rw [e1]
      simp only [ByteArray.append_assoc]
    exact break_walk id k n (txt id) cond _ hid cond off w _ e (by rw [← e]; exact q2) q1 h1 (.inr (.inr (.inl ⟨k2, rfl, rfl⟩)))
  · obtain ⟨q1, q2⟩ := word_len (txt id) ⟨#[107, 105, 110, 100]⟩ (txt k) off (by omega) (by decide) (by omega)
    exact break_walk id k n (txt id) (txt k) _ hid cond off w _ (by unfold breakS; rw [if_neg k0, if_neg k1, if_neg k2, rowS_three]; rfl) (by
      have : breakS id k n cond off = offS off (rowS [txt id, ⟨#[107, 105, 110, 100]⟩, txt k]) := by unfold breakS; rw [if_neg k0, if_neg k1, if_neg k2, rowS_three]; rfl
      rw [this]; exact q2) q1 h1 (.inr (.inr (.inr ⟨k0, k1, k2, rfl, h3⟩)))

/-! ### the law -/
def SB (W1 : World) (g : Nat) (id k n : Int) (cond : ByteArray) (off : Bool) (w' : World) : Prop := Below W1.heap.size W1 w' ∧ Brk w' g id k n cond off
theorem SB.step {W1 : World} {g : Nat} {id k n : Int} {cond : ByteArray} {off : Bool} {w' w2 : World} (hg : g < W1.heap.size) (h : SB W1 g id k n cond off w') (hb : Below w'.heap.size w' w2) : SB W1 g id k n cond off w2 :=
  ⟨bl_trans h.1 hb, h.2.below (Nat.lt_of_lt_of_le hg h.1.size) hb⟩
set_option maxHeartbeats 4000000 in
set_option maxRecDepth 100000 in
theorem breaks_main (id k n : Int) (hid : -9223372036854775808 ≤ id ∧ id ≤ 9223372036854775807) (hk : -9223372036854775808 ≤ k ∧ k ≤ 9223372036854775807) (hn : -9223372036854775808 ≤ n ∧ n ≤ 9223372036854775807) (cond : ByteArray) (hc : cond.size ≤ 300) (off : Bool)
    (la : Option Addr) (lc : Nat) (xs : List Int) (hl : xs.length ≤ 40) (hx : ∀ n ∈ xs, -9223372036854775808 ≤ n ∧ n ≤ 9223372036854775807) (w : World) (hp : Pow w)
    (hrow : 0 < xs.length → ∃ b o, la = some ⟨b, o, none⟩ ∧ b < w.heap.size ∧ IntRow w b o xs) :
    Calls Tryd.prog 10 #[.agg #[.int .i64 id, .int .i64 k, .int .i64 n, .string cond, .bool off], .slice la xs.length lc] w fun e w' => e = .returned (.bool true) ∧ Below w.heap.size w w' := by
  have hbox := Brk.new w 51 id k n cond off
  have hlt : w.heap.size < (w.alloc (.cells #[.int .i64 id, .int .i64 k, .int .i64 n, .string cond, .bool off] 51)).heap.size := by simp
  have hb1 : Below w.heap.size w (w.alloc (.cells #[.int .i64 id, .int .i64 k, .int .i64 n, .string cond, .bool off] 51)) := bl_alloc (Below.refl _ _) _
  obtain ⟨W1, hW1⟩ : ∃ W1, w.alloc (.cells #[.int .i64 id, .int .i64 k, .int .i64 n, .string cond, .bool off] 51) = W1 := ⟨_, rfl⟩
  rw [hW1] at hbox hlt hb1
  have hr1 : ∀ w', Below w.heap.size w w' → (0 < xs.length → ∃ b o, la = some ⟨b, o, none⟩ ∧ b < w'.heap.size ∧ IntRow w' b o xs) := fun w' hb h0 => by
    obtain ⟨b, o, h1, h2, h3⟩ := hrow h0
    exact ⟨b, o, h1, Nat.lt_of_lt_of_le h2 hb.size, fun i hi => (hb.cell (p := ⟨b, o + i, none⟩) h2).trans (h3 i hi)⟩
  have s1 : SB W1 w.heap.size id k n cond off W1.drew := ⟨bl_drew (Below.refl _ _), hbox⟩
  have up := fun (w' : World) (h : SB W1 w.heap.size id k n cond off w') => bl_trans hb1 h.1
  have f1 := Lib.hid (fun w' (h : SB W1 w.heap.size id k n cond off w') => (break_any id k n hid hk hn cond hc off w' (hp.below (up w' h))).mono (R' := fun e w2 => e = .returned (.string (breakS id k n cond off)) ∧ SB W1 w.heap.size id k n cond off w2) (fun e w2 he => ⟨he.1, h.step hlt he.2⟩))
  have f2 := Lib.hid (fun w' (h : SB W1 w.heap.size id k n cond off w') => (refbreak_any id k n hid hk hn cond hc off w').mono (R' := fun e w2 => e = .returned (.string (breakS id k n cond off)) ∧ SB W1 w.heap.size id k n cond off w2) (fun e w2 he => ⟨he.1, h.step hlt he.2⟩))
  have f3 := Lib.hid (fun w' (h : SB W1 w.heap.size id k n cond off w') => (hits_any la lc xs hl hx w' (hp.below (up w' h)) (hr1 w' (up w' h))).mono (R' := fun e w2 => e = .returned (.string (hitsS xs)) ∧ SB W1 w.heap.size id k n cond off w2) (fun e w2 he => ⟨he.1, h.step hlt he.2⟩))
  have f4 := Lib.hid (fun w' (h : SB W1 w.heap.size id k n cond off w') => (refhits_any la lc xs hl hx w' (hr1 w' (up w' h))).mono (R' := fun e w2 => e = .returned (.string (hitsS xs)) ∧ SB W1 w.heap.size id k n cond off w2) (fun e w2 he => ⟨he.1, h.step hlt he.2⟩))
  have f5 := Lib.hid (fun w' (h : SB W1 w.heap.size id k n cond off w') => (awake30 w' (hp.below (up w' h))).mono (R' := fun e w2 => e = .returned (.bool true) ∧ SB W1 w.heap.size id k n cond off w2) (fun e w2 he => ⟨he.1, h.step hlt he.2⟩))
  have hst := Lib.hid (fun (w' w2 : World) (h : SB W1 w.heap.size id k n cond off w') (hb : Below w'.heap.size w' w2) => h.step hlt hb)
  have c3 := hbox.2.2.2.1
  have hcs : (cond.size : Int) ≤ 300 := by omega
  have hls : (xs.length : Int) ≤ 40 := by omega
  generalize breakS id k n cond off = R at *
  generalize hitsS xs = H at *
  clear hr1 up hrow hx hp hbox hk hn hid
  go_enter Tryd.func10, Tryd.ntmps10
  go_wp2_with fail
  clear hW1 c3
  go_region_held3 (fun w' => Below W1.heap.size W1 w' ∧ w'.cell? ⟨w.heap.size, 0, none⟩ = some (.int .i64 id) ∧ w'.cell? ⟨w.heap.size, 1, none⟩ = some (.int .i64 k) ∧ w'.cell? ⟨w.heap.size, 2, none⟩ = some (.int .i64 n) ∧ w'.cell? ⟨w.heap.size, 3, none⟩ = some (.string cond) ∧ w'.cell? ⟨w.heap.size, 4, none⟩ = some (.bool off)) (first | exact s1 | exact hs)
    (first
    | (go_at_call 27; refine (f1.out _ s1).mono ?_; rintro e w2 ⟨rfl, hs⟩)
    | (go_at_call 28; refine (f2.out _ hs).mono ?_; rintro e w3 ⟨rfl, hs⟩)
    | (go_at_call 29; refine (f3.out _ hs).mono ?_; rintro e w4 ⟨rfl, hs⟩)
    | (go_at_call 30; refine (f4.out _ hs).mono ?_; rintro e w5 ⟨rfl, hs⟩)
    | (go_at_call 26; refine (f5.out _ hs).mono ?_; rintro e w6 ⟨rfl, hs⟩))
  all_goals go_wp2_with fail
  all_goals go_ret
  all_goals exact ⟨rfl, bl_trans hb1 hs.1⟩
set_option maxHeartbeats 2000000 in
theorem breaks_great (id k n : Int) (cond : ByteArray) (hs : cond.size ≤ maxLen) (off : Bool) (la : Option Addr) (ll lc : Nat) (hg : 300 < cond.size ∨ (cond.size ≤ 300 ∧ 40 < ll)) (w : World) (hp : Pow w) :
    Calls Tryd.prog 10 #[.agg #[.int .i64 id, .int .i64 k, .int .i64 n, .string cond, .bool off], .slice la ll lc] w fun e w' => e = .returned (.bool true) ∧ Below w.heap.size w w' := by
  have ha := Lib.hid (fun w' (h : Below w.heap.size w w') => awake30 w' (hp.below h))
  clear hp
  rcases hg with hg | ⟨hg, hg'⟩
  all_goals go_enter Tryd.func10, Tryd.ntmps10
  all_goals go_wp2_with (go_at_call 26; refine (ha.out _ (bl_alloc (Below.refl _ _) _)).mono ?_; rintro e w7 ⟨rfl, hb7⟩)
  all_goals go_ret
  all_goals exact ⟨rfl, bl_trans (bl_alloc (Below.refl _ _) _) hb7⟩
theorem viewBreaks_walk (W : World) (hp : Pow W) (cs : Array Value) (x : Int × Int × Int × List UInt8 × Bool × Unit) (h : (rPair (rInt .i64) (rPair (rInt .i64) (rPair (rInt .i64) (rPair rStr (rPair rBool rUnit))))).ok (Sub.all W) cs.toList x)
    (la : Option Addr) (ll lc : Nat) (xs : List Int) (h2 : (rSl (rInt .i64)).ok (Sub.all W) [.slice la ll lc] xs) :
    Calls Tryd.prog 10 #[.agg cs, .slice la ll lc] W fun e w' => e = .returned (.bool true) ∧ Below W.heap.size W w' := by
  obtain ⟨id, k, n, bs, off, u⟩ := x
  obtain ⟨a1, r1, e1, ⟨q1, w1⟩, a2, r2, e2, ⟨q2, w2⟩, a3, r3, e3, ⟨q3, w3⟩, a4, r4, e4, ⟨cond, q4, _, hcm⟩, a5, r5, e5, q5, q6⟩ := h
  have hcs : cs = #[.int .i64 id, .int .i64 k, .int .i64 n, .string cond, .bool off] := by
    apply Array.toList_inj.1
    rw [e1, q1, e2, q2, e3, q3, e4, q4, e5, show a5 = [.bool off] from q5, show r5 = [] from q6]
    rfl
  subst hcs
  obtain ⟨la', lc', el, _, _, hrow⟩ := h2
  obtain ⟨rfl, rfl, rfl⟩ : la = la' ∧ ll = xs.length ∧ lc = lc' := by simpa using el
  have bd : ∀ m : Int, (Lit.int .i64 m).wf = true → -9223372036854775808 ≤ m ∧ m ≤ 9223372036854775807 := fun m wm => by
    simp [Lit.wf, IntKind.min, IntKind.max, IntKind.signed, IntKind.bits] at wm; omega
  by_cases h9 : 300 < cond.size ∨ (cond.size ≤ 300 ∧ 40 < xs.length)
  · exact breaks_great id k n cond hcm off la _ lc h9 W hp
  · have hcell : ∀ (b o : Nat), RowAt (rInt .i64) (Sub.all W) b o xs → ∀ i (hi : i < xs.length), W.cell? ⟨b, o + i, none⟩ = some (.int .i64 xs[i]) ∧ (Lit.int .i64 xs[i]).wf = true := fun b o hr i hi => by
      obtain ⟨cs, ⟨h1, h1'⟩, h2⟩ := hr i hi
      subst h1
      have := h2.cell (Sub.all_in W) (j := 0) (by simp)
      exact ⟨by simpa [rInt] using this, h1'⟩
    refine breaks_main id k n (bd _ w1) (bd _ w2) (bd _ w3) cond (by omega) off la lc xs (by omega) (fun m hm => ?_) W hp (fun h0 => ?_)
    · obtain ⟨i, hi, rfl⟩ := List.mem_iff_getElem.1 hm
      obtain ⟨b, o, h1, h2⟩ := hrow (by omega)
      exact bd _ (hcell b o h2 i hi).2
    · obtain ⟨b, o, h1, h2⟩ := hrow h0
      have h3 := fun i hi => (hcell b o h2 i hi).1
      exact ⟨b, o, h1, World.block_lt_of_cell? W ⟨b, o + 0, none⟩ (h3 0 h0), h3⟩
end Go.Proofs.YtjfpepinmbbnbaaDoor
