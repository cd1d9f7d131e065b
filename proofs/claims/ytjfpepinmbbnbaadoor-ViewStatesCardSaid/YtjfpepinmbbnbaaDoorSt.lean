/-
  A state's cells, and the row of its registers, of chapter 30.
  Conditions: the table of powers of ten lies as laid ('Pow').
-/
import Derived.Test.YtjfpepinmbbnbaaDoorView2
import Derived.Test.YtjfpepinmbbnbaaDoorShow2
namespace Go.Proofs.YtjfpepinmbbnbaaDoor
open Go.RowKit
set_option linter.unusedVariables false
set_option linter.unusedSimpArgs false
structure Sl3 where
  a : Option Addr
  n : Nat
  c : Nat
abbrev Sl3.v (s : Sl3) : Value := .slice s.a s.n s.c
/-- a state's cells -/
structure StC where
  pat : Sl3
  hold : Sl3
  nl : Bool
  line : Int
  subst : Bool
  last : Int
  next : Int
  opn : Int
  cur : Int
  missing : Int
  rest : Sl3
  out : Sl3
  short : Bool
  place : Sl3
  pshort : Bool
  phase : Int
  pc : Int
  exit : Int
  stop : Int
  err : Int
  silent : Bool
  quit : Bool
  again : Bool
  active : Sl3
  waits : Sl3
  files : Sl3
  lacks : Sl3
def StC.cells (s : StC) : List Value := [s.pat.v, s.hold.v, .bool s.nl, .int .i64 s.line, .bool s.subst, .int .i64 s.last, .int .i64 s.next, .int .i64 s.opn, .int .i64 s.cur, .int .i64 s.missing, s.rest.v, s.out.v, .bool s.short, s.place.v, .bool s.pshort, .int .i64 s.phase, .int .i64 s.pc, .int .i64 s.exit, .int .i64 s.stop, .int .i64 s.err,
  .bool s.silent, .bool s.quit, .bool s.again, s.active.v, s.waits.v, s.files.v, s.lacks.v]
def bitS (b : Bool) : ByteArray := if b then ⟨#[49]⟩ else ⟨#[48]⟩
theorem bit_any (b : Bool) (w : World) : Calls Tryd.prog 89 #[.bool b] w fun e w' => e = .returned (.string (bitS b)) ∧ w = w' := by
  cases b
  all_goals
    go_enter Tryd.func89, Tryd.ntmps89
    go_wp2_with fail
    go_ret
    exact ⟨rfl, rfl⟩
theorem join_le (l : List (List UInt8)) (sep : List UInt8) (m : Nat) (h : ∀ x ∈ l, x.length ≤ m) : (Lib.join l sep).length ≤ l.length * (m + sep.length) := by
  cases l with
  | nil => simp [Lib.join, List.intercalate]
  | cons x l =>
    rw [Lib.join_cons, List.length_append]
    have hx := h x (by simp)
    have ht : ∀ l : List (List UInt8), (∀ x ∈ l, x.length ≤ m) → (Lib.joinTail sep l).length ≤ l.length * (m + sep.length) := by
      intro l
      induction l with
      | nil => intro _; simp [Lib.joinTail]
      | cons y l ih =>
        intro h
        have h1 := h y (by simp)
        have h2 := ih (fun z hz => h z (by simp [hz]))
        have e : Lib.joinTail sep (y :: l) = (sep ++ y) ++ Lib.joinTail sep l := by simp [Lib.joinTail]
        rw [e, List.length_append, List.length_append, List.length_cons, Nat.succ_mul]
        omega
    have := ht l (fun z hz => h z (by simp [hz]))
    rw [List.length_cons, Nat.succ_mul]; omega
theorem rowS_le (ss : List ByteArray) (m : Nat) (h : ∀ x ∈ ss, x.size ≤ m) : (rowS ss).size ≤ ss.length * (m + 1) := by
  have := join_le (ss.map (·.data.toList)) [32] m (fun x hx => by
    obtain ⟨y, hy, rfl⟩ := List.mem_map.1 hx
    have := h y hy
    rw [Array.length_toList]; exact this)
  show (Lib.join _ _).toArray.size ≤ _
  rw [List.size_toArray]
  rw [List.length_map] at this
  exact this
def regsL (s : StC) : List ByteArray := [⟨#[110, 108]⟩, bitS s.nl, ⟨#[115, 117, 98, 115, 116]⟩, bitS s.subst, ⟨#[108, 97, 115, 116]⟩, txt s.last, ⟨#[115, 105, 108, 101, 110, 116]⟩, bitS s.silent, ⟨#[113, 117, 105, 116]⟩, bitS s.quit, ⟨#[97, 103, 97, 105, 110]⟩, bitS s.again, ⟨#[99, 117, 114]⟩, txt s.cur, ⟨#[109, 105, 115, 115, 105, 110, 103]⟩, txt s.missing]
/-- the row of the registers -/
def regsS (s : StC) : ByteArray := rowS (regsL s)
structure StC.Ok (s : StC) : Prop where
  last : -9223372036854775808 ≤ s.last ∧ s.last ≤ 9223372036854775807
  cur : -9223372036854775808 ≤ s.cur ∧ s.cur ≤ 9223372036854775807
  missing : -9223372036854775808 ≤ s.missing ∧ s.missing ≤ 9223372036854775807
theorem bitS_le (b : Bool) : (bitS b).size ≤ 30 := by cases b <;> decide
theorem regs_le (s : StC) (h : s.Ok) : (rowS (regsL s)).size ≤ 1000000 := by
  have h1 := txt_size _ h.last
  have h2 := txt_size _ h.cur
  have h3 := txt_size _ h.missing
  refine Nat.le_trans (rowS_le (regsL s) 30 (fun x hx => ?_)) (by simp [regsL])
  simp only [regsL, List.mem_cons, List.not_mem_nil, or_false] at hx
  rcases hx with rfl | rfl | rfl | rfl | rfl | rfl | rfl | rfl | rfl | rfl | rfl | rfl | rfl | rfl | rfl | rfl <;> first | exact bitS_le _ | omega | decide
/-- the elder world lies as it lay; the state's cells -/
def SR (s : StC) (W1 : World) (g : Nat) (w' : World) : Prop := Below W1.heap.size W1 w' ∧ w'.cell? ⟨g, 2, none⟩ = some (.bool s.nl) ∧ w'.cell? ⟨g, 4, none⟩ = some (.bool s.subst) ∧ w'.cell? ⟨g, 5, none⟩ = some (.int .i64 s.last) ∧ w'.cell? ⟨g, 20, none⟩ = some (.bool s.silent) ∧ w'.cell? ⟨g, 21, none⟩ = some (.bool s.quit) ∧ w'.cell? ⟨g, 22, none⟩ = some (.bool s.again) ∧ w'.cell? ⟨g, 8, none⟩ = some (.int .i64 s.cur) ∧ w'.cell? ⟨g, 9, none⟩ = some (.int .i64 s.missing)
theorem SR.step {s : StC} {W1 : World} {g : Nat} {w' w2 : World} (hg : g < W1.heap.size) (h : SR s W1 g w') (hb : Below w'.heap.size w' w2) : SR s W1 g w2 := by
  obtain ⟨h0, h1, h2, h3, h4, h5, h6, h7, h8⟩ := h
  have hl : g < w'.heap.size := Nat.lt_of_lt_of_le hg h0.size
  have e : ∀ j, w2.cell? ⟨g, j, none⟩ = w'.cell? ⟨g, j, none⟩ := fun j => hb.cell (p := ⟨g, j, none⟩) hl
  exact ⟨bl_trans h0 hb, (e _).trans h1, (e _).trans h2, (e _).trans h3, (e _).trans h4, (e _).trans h5, (e _).trans h6, (e _).trans h7, (e _).trans h8⟩
/-- a row of one text -/
def OneRow (t : ByteArray) (w : World) (e : Ending) (w' : World) : Prop := ∃ g, e = .returned (.slice (some ⟨g, 0, none⟩) 1 1) ∧ w'.cell? ⟨g, 0, none⟩ = some (.string t) ∧ w.heap.size ≤ g ∧ g < w'.heap.size ∧ Below w.heap.size w w'
theorem OneRow.mk {t : ByteArray} {w w2 : World} (hb : Below w.heap.size w w2) (e : TypeId) : OneRow t w (.returned (.slice (some ⟨w2.heap.size, 0, none⟩) 1 1)) (w2.alloc (.cells #[.string t] e)) :=
  ⟨w2.heap.size, rfl, (Blk.new w2 e [.string t]).cell 0, hb.size, by simp, bl_alloc hb _⟩
set_option maxHeartbeats 4000000 in
set_option maxRecDepth 100000 in
theorem regs_any (s : StC) (hs : s.Ok) (w : World) (hp : Pow w) : Calls Tryd.prog 66 #[.agg s.cells.toArray] w (OneRow (regsS s) w) := by
  have hz := (Blk.new w 66 s.cells).cell
  have hlt : w.heap.size < (w.alloc (.cells s.cells.toArray 66)).heap.size := by simp
  have hb1 : Below w.heap.size w (w.alloc (.cells s.cells.toArray 66)) := bl_alloc (Below.refl _ _) _
  have s1 : SR s (w.alloc (.cells s.cells.toArray 66)) w.heap.size (w.alloc (.cells s.cells.toArray 66)) := ⟨Below.refl _ _, hz 2, hz 4, hz 5, hz 20, hz 21, hz 22, hz 8, hz 9⟩
  obtain ⟨W1, hW1⟩ : ∃ W1, w.alloc (.cells s.cells.toArray 66) = W1 := ⟨_, rfl⟩
  rw [hW1] at s1 hlt hb1
  clear hz
  have hst := Lib.hid (fun (w' w2 : World) (h : SR s W1 w.heap.size w') (hb : Below w'.heap.size w' w2) => h.step hlt hb)
  have tt := fun (n : Int) (hn : -9223372036854775808 ≤ n ∧ n ≤ 9223372036854775807) w' (h : SR s W1 w.heap.size w') => (text_any n hn w' (hp.below (bl_trans hb1 h.1))).mono (R' := fun e w2 => e = .returned (.string (txt n)) ∧ SR s W1 w.heap.size w2) (fun e w2 he => ⟨he.1, h.step hlt he.2⟩)
  have t1 := Lib.hid (tt s.last hs.last)
  have t2 := Lib.hid (tt s.cur hs.cur)
  have t3 := Lib.hid (tt s.missing hs.missing)
  have hrow : ∀ (W : World) (g : Nat), g = W.heap.size → Calls Tryd.prog 61 #[.slice (some ⟨g, 0, none⟩) 16 16] (W.alloc (.cells #[.string ⟨#[110, 108]⟩, .string (bitS s.nl), .string ⟨#[115, 117, 98, 115, 116]⟩, .string (bitS s.subst), .string ⟨#[108, 97, 115, 116]⟩, .string (txt s.last), .string ⟨#[115, 105, 108, 101, 110, 116]⟩, .string (bitS s.silent), .string ⟨#[113, 117, 105, 116]⟩, .string (bitS s.quit), .string ⟨#[97, 103, 97, 105, 110]⟩, .string (bitS s.again), .string ⟨#[99, 117, 114]⟩, .string (txt s.cur), .string ⟨#[109, 105, 115, 115, 105, 110, 103]⟩, .string (txt s.missing)] 9)) fun e w' => e = .returned (.string (regsS s)) ∧ Below W.heap.size W w' := fun W g hg => (row_any (regsL s) g 16 (W.alloc (.cells ((regsL s).map Value.string).toArray 9)) (strRow_new W g hg 9 (regsL s)) (by subst hg; simp) (by simp [regsL]) (by simp [regsL]) (regs_le s hs)).mono (fun e w' h => ⟨h.1, bl_trans (bl_alloc (Below.refl _ _) _) h.2⟩)
  replace hrow := Lib.hid hrow
  clear tt
  unfold StC.cells at hW1 ⊢
  go_enter Tryd.func66, Tryd.ntmps66
  go_wp2_with fail
  have s1' : SR s W1 w.heap.size W1.drew := s1.step hlt (bl_drew (Below.refl _ _))
  have sI : Below W1.heap.size W1 W1.drew ∧ (W1.drew).cell? ⟨w.heap.size, 2, none⟩ = some (.bool s.nl) ∧ (W1.drew).cell? ⟨w.heap.size, 4, none⟩ = some (.bool s.subst) ∧ (W1.drew).cell? ⟨w.heap.size, 5, none⟩ = some (.int .i64 s.last) ∧ (W1.drew).cell? ⟨w.heap.size, 20, none⟩ = some (.bool s.silent) ∧ (W1.drew).cell? ⟨w.heap.size, 21, none⟩ = some (.bool s.quit) ∧ (W1.drew).cell? ⟨w.heap.size, 22, none⟩ = some (.bool s.again) ∧ (W1.drew).cell? ⟨w.heap.size, 8, none⟩ = some (.int .i64 s.cur) ∧ (W1.drew).cell? ⟨w.heap.size, 9, none⟩ = some (.int .i64 s.missing) := s1'
  clear s1 hW1 hs hp
  go_region_held3 (fun w' => Below W1.heap.size W1 w' ∧ w'.cell? ⟨w.heap.size, 2, none⟩ = some (.bool s.nl) ∧ w'.cell? ⟨w.heap.size, 4, none⟩ = some (.bool s.subst) ∧ w'.cell? ⟨w.heap.size, 5, none⟩ = some (.int .i64 s.last) ∧ w'.cell? ⟨w.heap.size, 20, none⟩ = some (.bool s.silent) ∧ w'.cell? ⟨w.heap.size, 21, none⟩ = some (.bool s.quit) ∧ w'.cell? ⟨w.heap.size, 22, none⟩ = some (.bool s.again) ∧ w'.cell? ⟨w.heap.size, 8, none⟩ = some (.int .i64 s.cur) ∧ w'.cell? ⟨w.heap.size, 9, none⟩ = some (.int .i64 s.missing)) (first | with_reducible exact hI | with_reducible exact sI | exact hst.out _ _ hq (bl_alloc (Below.refl _ _) _))
    (first
    | (go_at_call 89; refine (bit_any _ _).mono ?_; rintro e w2 ⟨rfl, rfl⟩)
    | (go_at_call 16; first
      | ((with_reducible refine (t1.out _ s1').mono ?_); rintro e w3 ⟨rfl, hq⟩; have hI : Below W1.heap.size W1 w3 ∧ (w3).cell? ⟨w.heap.size, 2, none⟩ = some (.bool s.nl) ∧ (w3).cell? ⟨w.heap.size, 4, none⟩ = some (.bool s.subst) ∧ (w3).cell? ⟨w.heap.size, 5, none⟩ = some (.int .i64 s.last) ∧ (w3).cell? ⟨w.heap.size, 20, none⟩ = some (.bool s.silent) ∧ (w3).cell? ⟨w.heap.size, 21, none⟩ = some (.bool s.quit) ∧ (w3).cell? ⟨w.heap.size, 22, none⟩ = some (.bool s.again) ∧ (w3).cell? ⟨w.heap.size, 8, none⟩ = some (.int .i64 s.cur) ∧ (w3).cell? ⟨w.heap.size, 9, none⟩ = some (.int .i64 s.missing) := hq)
      | ((with_reducible refine (t2.out _ hq).mono ?_); rintro e w4 ⟨rfl, hq⟩; have hI : Below W1.heap.size W1 w4 ∧ (w4).cell? ⟨w.heap.size, 2, none⟩ = some (.bool s.nl) ∧ (w4).cell? ⟨w.heap.size, 4, none⟩ = some (.bool s.subst) ∧ (w4).cell? ⟨w.heap.size, 5, none⟩ = some (.int .i64 s.last) ∧ (w4).cell? ⟨w.heap.size, 20, none⟩ = some (.bool s.silent) ∧ (w4).cell? ⟨w.heap.size, 21, none⟩ = some (.bool s.quit) ∧ (w4).cell? ⟨w.heap.size, 22, none⟩ = some (.bool s.again) ∧ (w4).cell? ⟨w.heap.size, 8, none⟩ = some (.int .i64 s.cur) ∧ (w4).cell? ⟨w.heap.size, 9, none⟩ = some (.int .i64 s.missing) := hq)
      | ((with_reducible refine (t3.out _ hq).mono ?_); rintro e w5 ⟨rfl, hq⟩; have hI : Below W1.heap.size W1 w5 ∧ (w5).cell? ⟨w.heap.size, 2, none⟩ = some (.bool s.nl) ∧ (w5).cell? ⟨w.heap.size, 4, none⟩ = some (.bool s.subst) ∧ (w5).cell? ⟨w.heap.size, 5, none⟩ = some (.int .i64 s.last) ∧ (w5).cell? ⟨w.heap.size, 20, none⟩ = some (.bool s.silent) ∧ (w5).cell? ⟨w.heap.size, 21, none⟩ = some (.bool s.quit) ∧ (w5).cell? ⟨w.heap.size, 22, none⟩ = some (.bool s.again) ∧ (w5).cell? ⟨w.heap.size, 8, none⟩ = some (.int .i64 s.cur) ∧ (w5).cell? ⟨w.heap.size, 9, none⟩ = some (.int .i64 s.missing) := hq))
    | (go_at_call 61; refine (hrow.out _ _ (by simp)).mono ?_; rintro e w6 ⟨rfl, hb6⟩; have hq := hst.out _ _ hq hb6; have hI : Below W1.heap.size W1 w6 ∧ (w6).cell? ⟨w.heap.size, 2, none⟩ = some (.bool s.nl) ∧ (w6).cell? ⟨w.heap.size, 4, none⟩ = some (.bool s.subst) ∧ (w6).cell? ⟨w.heap.size, 5, none⟩ = some (.int .i64 s.last) ∧ (w6).cell? ⟨w.heap.size, 20, none⟩ = some (.bool s.silent) ∧ (w6).cell? ⟨w.heap.size, 21, none⟩ = some (.bool s.quit) ∧ (w6).cell? ⟨w.heap.size, 22, none⟩ = some (.bool s.again) ∧ (w6).cell? ⟨w.heap.size, 8, none⟩ = some (.int .i64 s.cur) ∧ (w6).cell? ⟨w.heap.size, 9, none⟩ = some (.int .i64 s.missing) := hq))
  all_goals go_wp2_with fail
  all_goals go_ret
  all_goals exact OneRow.mk (bl_trans hb1 hq.1) _
end Go.Proofs.YtjfpepinmbbnbaaDoor
