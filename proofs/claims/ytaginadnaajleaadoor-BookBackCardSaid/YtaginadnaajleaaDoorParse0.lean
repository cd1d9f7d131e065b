/-
  The pieces of book.Parse's walk: how much a line may bring, a line as a string; of chapter 32.
  Conditions: as each theorem states them.
-/
import Derived.Test.YtaginadnaajleaaDoorRdr
import Derived.Laws.IdiomStrings
import Derived.Laws.BytesArg
namespace Go.Proofs.YtaginadnaajleaaDoor
open Go.RowKit
set_option linter.unusedVariables false
set_option linter.unusedSimpArgs false
open BM (Cs)
theorem unqS_le : ∀ (n : Nat) (out : List UInt8) (a : Nat) (r : List UInt8), r.length ≤ n → (unqS out a r).1.length ≤ out.length + r.length
  | n, out, a, [], _ => by rw [unqS_nil]; simp
  | 0, out, a, c :: r, h => by simp at h
  | n + 1, out, a, c :: r, h => by
    simp only [List.length_cons] at h
    by_cases h1 : c = 34
    · subst h1; rw [unqS_end]; simp
    · by_cases h2 : c = 92
      · subst h2
        cases he : escS r with
        | error e => rw [unqS_err out a r e he]; simp
        | ok xn =>
          obtain ⟨x, m⟩ := xn
          rw [unqS_esc out a r x m he]
          have := unqS_le n (out ++ [x]) (a + 1 + m) (r.drop m) (by rw [List.length_drop]; omega)
          rw [List.length_append, List.length_drop] at this
          simp only [List.length_cons, List.length_nil] at this ⊢
          omega
      · rw [unqS_plain out a c r h1 h2]
        have := unqS_le n (out ++ [c]) (a + 1) r (by omega)
        rw [List.length_append] at this
        simp only [List.length_cons, List.length_nil] at this ⊢
        omega
theorem unquote_le (s : List UInt8) : (unquoteS s 0).1.length ≤ s.length := by
  unfold unquoteS
  split
  · simp
  · cases h : s.drop (0 : Int).toNat with
    | nil => simp
    | cons c r =>
      simp only
      split
      · simp
      · have := unqS_le r.length [] ((0 : Int).toNat + 1) r (Nat.le_refl _)
        have hl : (s.drop (0 : Int).toNat).length = r.length + 1 := by rw [h]; simp
        rw [List.length_drop] at hl
        simp only [List.length_nil] at this
        omega
theorem quoteAll_le (s : List UInt8) : (BM.quoteAll s).1.length ≤ s.length := by
  have := unquote_le s
  unfold BM.quoteAll
  split <;> exact this
theorem lines_len : ∀ (s : List UInt8), (BM.linesS s).length ≤ s.length ∧ ∀ l ∈ BM.linesS s, l.length ≤ s.length
  | [] => by simp [BM.linesS]
  | c :: r => by
    obtain ⟨h1, h2⟩ := lines_len r
    unfold BM.linesS
    split
    · refine ⟨by simp; exact h1, fun l hl => ?_⟩
      rcases List.mem_cons.1 hl with rfl | hl
      · simp
      · have := h2 l hl; simp only [List.length_cons]; omega
    · cases hr : BM.linesS r with
      | nil => simp
      | cons h t =>
        rw [hr] at h1 h2
        refine ⟨by simp only [List.length_cons] at h1 ⊢; omega, fun l hl => ?_⟩
        rcases List.mem_cons.1 hl with rfl | hl
        · have := h2 h (by simp); simp only [List.length_cons]; omega
        · have := h2 l (by simp [hl]); simp only [List.length_cons]; omega
/-- a line as a string -/
theorem conv_line {w : World} {base : Nat} {v : Value} {l : List UInt8} (h : w.ownsRow base 5 1 v l.length (Lib.byteCells l)) : (convert 23 9 v).run Tryd.prog w = .ok (strV l) w := by
  rcases byteCells_cells h with ⟨rfl, rfl⟩ | ⟨g, cap, rfl, hc⟩
  · exact run_convert_bytes_nil w 23 5 Tryd.underlying23 Tryd.underlying5 0 0 9 Tryd.underlying9
  · exact run_convert_bytes_back w 23 9 5 ⟨g, 0, none⟩ cap l Tryd.underlying23 Tryd.underlying5 Tryd.underlying9 (fun j hj => hc j _ (by simp [Lib.byteCells, hj]))
/-- '[]byte(s)', with its room -/
theorem conv_room {P : Program} (w : World) (src dst e : TypeId) (xs : List UInt8) (hs : P.underlying src = some .string) (hd : P.underlying dst = some (.slice e)) (he : P.underlying e = some (.int .u8)) :
    ∃ c w', (convert src dst (strV xs)).run P w = .ok (.slice (some ⟨w.heap.size, 0, none⟩) xs.length c) w' ∧ Below w.heap.size w w' ∧ ByteRow w' w.heap.size 0 xs ∧ w.heap.size < w'.heap.size ∧ xs.length ≤ c := by
  have h := run_bytes_of_string (P := P) w src dst e ⟨xs.toArray⟩ hs hd he
  rw [show (⟨xs.toArray⟩ : ByteArray).size = xs.length from ba_size xs] at h
  refine ⟨_, _, h, bl_alloc (bl_drew (Below.refl _ _)) _, fun i hi => ?_, by simp, grownCap_ge _ _ _ _⟩
  rw [Nat.zero_add]
  have hsz : i < (⟨xs.toArray⟩ : ByteArray).data.size := by simpa using hi
  exact (World.cell?_alloc_mark w.drew _ _ _ i).trans ((bytesRow_at _ _ _ hsz).trans (by simp))
theorem map_of_eq {w w' : World} {g : Nat} {f : ByteArray → Option Value} (h : StrMap w g f) (he : w'.heap[g]? = w.heap[g]?) : StrMap w' g f := by
  obtain ⟨es, cl, h1, h2, h3⟩ := h
  exact ⟨es, cl, he.trans h1, h2, h3⟩
theorem own_of_eq {w w' : World} {base e size k : Nat} {v : Value} {xs : List Value} (h : w.ownsRow base e size v k xs) (he : ∀ j, base ≤ j → j < w.heap.size → w'.heap[j]? = w.heap[j]?) : w'.ownsRow base e size v k xs := by
  obtain ⟨h1, h2⟩ := h
  refine ⟨h1, ?_⟩
  rcases h2 with h2 | ⟨g, cap, cur, e1, hg, hh, rest⟩
  · exact .inl h2
  · exact .inr ⟨g, cap, cur, e1, hg, (he g hg (Array.getElem?_eq_some_iff.1 hh).1).trans hh, rest⟩
theorem pairs_get (vs : List (Value × Bool)) (k : Nat) (h : k < vs.length) : (vs.flatMap fun p => [p.1, Value.bool p.2])[k * 2]? = some vs[k].1 ∧ (vs.flatMap fun p => [p.1, Value.bool p.2])[k * 2 + 1]? = some (.bool vs[k].2) := by
  induction vs generalizing k with
  | nil => simp at h
  | cons a l ih =>
    cases k with
    | zero => simp
    | succ k =>
      have := ih k (by simpa using h)
      simp only [List.flatMap_cons, List.getElem_cons_succ]
      rw [show (k + 1) * 2 = k * 2 + 2 by omega]
      exact ⟨by simpa using this.1, by simpa using this.2⟩
theorem row2_cells {w : World} {base e n : Nat} {a : Option Addr} {c : Nat} {vs : List (Value × Bool)} (h : w.ownsRow base e 2 (.slice a n c) n (vs.flatMap fun p => [p.1, .bool p.2])) (hn : 0 < n) : ∃ g, a = some ⟨g, 0, none⟩ ∧ base ≤ g ∧ g < w.heap.size ∧ ∀ k (hk : k < vs.length), w.cell? ⟨g, k * 2, none⟩ = some vs[k].1 ∧ w.cell? ⟨g, k * 2 + 1, none⟩ = some (.bool vs[k].2) := by
  obtain ⟨h1, h2⟩ := h
  rcases h2 with ⟨_, h0⟩ | ⟨g, cap, cur, e1, hb, hh, _, _, _, hx⟩
  · omega
  · injection e1 with e1 e2 e3
    subst e1
    have hB : Blk w g e cur.toList := by simpa [Blk] using hh
    refine ⟨g, rfl, hb, hB.lt, fun k hk => ?_⟩
    obtain ⟨q1, q2⟩ := pairs_get vs k hk
    rw [← hx] at q1 q2
    rw [List.getElem?_take] at q1 q2
    split at q1
    · split at q2
      · rw [hB.cell, hB.cell]; exact ⟨by simpa using q1, by simpa using q2⟩
      · cases q2
    · cases q1
theorem str_beq (x k : List UInt8) : ((⟨x.toArray⟩ : ByteArray) == ⟨k.toArray⟩) = (x == k) := by
  have h1 : ((⟨x.toArray⟩ : ByteArray) == ⟨k.toArray⟩) = (x.toArray == k.toArray) := rfl
  rw [h1, Bool.eq_iff_iff, beq_iff_eq, beq_iff_eq]
  constructor
  · intro h; have := congrArg Array.toList h; simpa using this
  · intro h; rw [h]
theorem zero_reader (w : World) : (zeroValue 60).run Tryd.prog w = .ok .nilFunc w := by kernel_rfl
/-- a look into a map -/
theorem wpList_look {P : Program} {w : World} {ops : Array Oper} {rest : List Oper} {o : Oper} {a : Act} {Q : Exit → Act → World → Prop} (hg : o.guard = none) (m x : Operand) (t : TypeId) (hop : o.op = Op.lookup t m x true) (g : Nat) (hm : a.eval m = .map (some g)) (s : ByteArray) (hx : a.eval x = .string s) (r : Value)
    (hr : (Instr.lookup t (.map (some g)) (.string s) true).run P w = .ok r w) (hK : wpList P ops Q rest (a.put o.dst r) w) : wpList P ops Q (o :: rest) a w := by
  refine wpList_plain hg fun K' hK' => ?_
  unfold Oper.wp
  simp [execOp, hop, hm, hx, hr, Result.andThen]
  exact hK' _ _ hK
/-- which reader a word has -/
theorem rd_cases (p1 p2 p3 : Nat) (wd : List UInt8) : (rdF p1 p2 p3 ⟨wd.toArray⟩ = none ∧ BM.look wd = none) ∨ (rdF p1 p2 p3 ⟨wd.toArray⟩ = some (fnV 42) ∧ BM.look wd = some BM.sedR) ∨ (rdF p1 p2 p3 ⟨wd.toArray⟩ = some (fnV 43) ∧ BM.look wd = some BM.optionR) ∨
    (rdF p1 p2 p3 ⟨wd.toArray⟩ = some (fnV 44) ∧ BM.look wd = some BM.inputR) ∨ (rdF p1 p2 p3 ⟨wd.toArray⟩ = some (fnV 45) ∧ BM.look wd = some BM.fileR) ∨ (rdF p1 p2 p3 ⟨wd.toArray⟩ = some (rclo p1) ∧ BM.look wd = some BM.capR) ∨
    (rdF p1 p2 p3 ⟨wd.toArray⟩ = some (rclo p2) ∧ BM.look wd = some BM.periodR) ∨ (rdF p1 p2 p3 ⟨wd.toArray⟩ = some (rclo p3) ∧ BM.look wd = some BM.fuelR) ∨ (rdF p1 p2 p3 ⟨wd.toArray⟩ = some (fnV 49) ∧ BM.look wd = some BM.doR) := by
  by_cases h1 : wd = BM.sedW
  · subst h1; exact .inr (.inl ⟨rfl, rfl⟩)
  by_cases h2 : wd = BM.optionW
  · subst h2; exact .inr (.inr (.inl ⟨rfl, rfl⟩))
  by_cases h3 : wd = BM.inputW
  · subst h3; exact .inr (.inr (.inr (.inl ⟨rfl, rfl⟩)))
  by_cases h4 : wd = BM.fileW
  · subst h4; exact .inr (.inr (.inr (.inr (.inl ⟨rfl, rfl⟩))))
  by_cases h5 : wd = BM.capacityW
  · subst h5; exact .inr (.inr (.inr (.inr (.inr (.inl ⟨rfl, rfl⟩)))))
  by_cases h6 : wd = BM.periodW
  · subst h6; exact .inr (.inr (.inr (.inr (.inr (.inr (.inl ⟨rfl, rfl⟩))))))
  by_cases h7 : wd = BM.fuelW
  · subst h7; exact .inr (.inr (.inr (.inr (.inr (.inr (.inr (.inl ⟨rfl, rfl⟩)))))))
  by_cases h8 : wd = BM.doW
  · subst h8; exact .inr (.inr (.inr (.inr (.inr (.inr (.inr (.inr ⟨rfl, rfl⟩)))))))
  refine .inl ⟨?_, ?_⟩
  · have e : ∀ k : List UInt8, wd ≠ k → ((⟨wd.toArray⟩ : ByteArray) == ⟨k.toArray⟩) = false := fun k hk => by rw [str_beq]; simpa using hk
    unfold rdF
    rw [show ((⟨wd.toArray⟩ : ByteArray) == ⟨#[100, 111]⟩) = false from e BM.doW h8, show ((⟨wd.toArray⟩ : ByteArray) == ⟨#[102, 117, 101, 108]⟩) = false from e BM.fuelW h7, show ((⟨wd.toArray⟩ : ByteArray) == ⟨#[112, 101, 114, 105, 111, 100]⟩) = false from e BM.periodW h6,
      show ((⟨wd.toArray⟩ : ByteArray) == ⟨#[99, 97, 112, 97, 99, 105, 116, 121]⟩) = false from e BM.capacityW h5, show ((⟨wd.toArray⟩ : ByteArray) == ⟨#[102, 105, 108, 101]⟩) = false from e BM.fileW h4, show ((⟨wd.toArray⟩ : ByteArray) == ⟨#[105, 110, 112, 117, 116]⟩) = false from e BM.inputW h3,
      show ((⟨wd.toArray⟩ : ByteArray) == ⟨#[111, 112, 116, 105, 111, 110]⟩) = false from e BM.optionW h2, show ((⟨wd.toArray⟩ : ByteArray) == ⟨#[115, 101, 100]⟩) = false from e BM.sedW h1]
    rfl
  · have e : ∀ k : List UInt8, wd ≠ k → (k == wd) = false := fun k hk => by simpa using fun h => hk h.symm
    unfold BM.look BM.readers
    simp only [List.find?, e _ h1, e _ h2, e _ h3, e _ h4, e _ h5, e _ h6, e _ h7, e _ h8]
    rfl
end Go.Proofs.YtaginadnaajleaaDoor
