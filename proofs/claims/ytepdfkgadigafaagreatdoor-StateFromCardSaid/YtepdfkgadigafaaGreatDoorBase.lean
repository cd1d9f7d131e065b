/-
  The memory vocabulary of this seat's proofs: a set of blocks that stay as they are ('Sub'), what values read as in it ('Rp'), and how a call lets it grow ('Grow').
  Conditions: none; plain lemmas over whatever program.
-/
import Derived.WalkKit
import Derived.WalkSpells
import Derived.WalkLawsBesides
import Derived.Laws.EntriesVeiled
import Derived.Deep.QuietTactic
import Derived.BigQuiet
import Derived.Lib.Hide
import Derived.Handy
import Derived.Deep.Slices
namespace Go.Proofs.YtepdfkgadigafaaGreatDoor
open Go.RowKit
set_option linter.unusedVariables false

theorem bl_alloc {a w : World} (h : Below a.heap.size a w) (o : Obj) : Below a.heap.size a (w.alloc o) := h.alloc h.size o
theorem bl_setCell {a w : World} (h : Below a.heap.size a w) {p : Addr} (hp : a.heap.size ≤ p.block) (u : Value) : Below a.heap.size a (w.setCell p u) := h.setCell hp u
theorem bl_trans {a b c : World} (h : Below a.heap.size a b) (k : Below b.heap.size b c) : Below a.heap.size a c := h.trans (k.mono h.size)
theorem bl_drewN {a w : World} (h : Below a.heap.size a w) (n : Nat) : Below a.heap.size a (w.drewN n) := ⟨h.os, h.tape, h.output, h.size, h.block⟩
theorem bl_drew {a w : World} (h : Below a.heap.size a w) : Below a.heap.size a w.drew := h.drew
theorem ret_bool {a b : Bool} (h : a = b) : Ending.returned (.bool a) = .returned (.bool b) := by rw [h]
theorem ret_int {k : IntKind} {a b : Int} (h : a = b) : Ending.returned (.int k a) = .returned (.int k b) := by rw [h]
theorem ret_be {a b : Bool} {k : IntKind} {c d : Int} (h : a = b) (h' : c = d) : Ending.returned (.tuple #[.bool a, .int k c]) = .returned (.tuple #[.bool b, .int k d]) := by rw [h, h']
theorem ret_bbe {a b a' b' : Bool} {k : IntKind} {c d : Int} (h : a = b) (h1 : a' = b') (h' : c = d) : Ending.returned (.tuple #[.bool a, .bool a', .int k c]) = .returned (.tuple #[.bool b, .bool b', .int k d]) := by rw [h, h', h1]

/-- a block that lies below N: the walk finds it by this name -/
def Kept (N b : Nat) : Prop := b < N
theorem kept {N b : Nat} (h : b < N) : Kept N b := h
/-- the world w, seen from an elder one, W: below N it is the same -/
structure From (N : Nat) (W w : World) : Prop where
  below : Below N W w
  size : N ≤ w.heap.size
theorem From.start (w : World) : From w.heap.size w w := ⟨Below.refl _ _, Nat.le_refl _⟩
theorem From.mk1 {W w : World} (hb : Below W.heap.size W w) : ∃ N, W.heap.size = N ∧ From N W w := ⟨_, rfl, hb, hb.size⟩
theorem From.step {N : Nat} {W w w' : World} (h : From N W w) (hb : Below w.heap.size w w') : From N W w' := ⟨h.below.trans (hb.mono h.size), Nat.le_trans h.size hb.size⟩
theorem From.alloc {N : Nat} {W w : World} (h : From N W w) (o : Obj) : From N W (w.alloc o) := h.step (bl_alloc (Below.refl _ _) o)
theorem From.drew {N : Nat} {W w : World} (h : From N W w) : From N W w.drew := ⟨h.below.drew, h.size⟩
theorem From.drewN {N : Nat} {W w : World} (h : From N W w) (n : Nat) : From N W (w.drewN n) := ⟨⟨h.below.os, h.below.tape, h.below.output, h.below.size, h.below.block⟩, h.size⟩
theorem From.setCell {N : Nat} {W w : World} (h : From N W w) {p : Addr} (hp : N ≤ p.block) (u : Value) : From N W (w.setCell p u) := ⟨h.below.setCell hp u, by simpa [World.setCell] using h.size⟩
theorem From.rules {N : Nat} {W w : World} (h : From N W w) : (∀ b o, Kept N b → w.cell? ⟨b, o, none⟩ = W.cell? ⟨b, o, none⟩) ∧ (∀ b o, Kept N b → w.frozen? ⟨b, o, none⟩ = W.frozen? ⟨b, o, none⟩) :=
  ⟨fun b o k => h.below.cell (p := ⟨b, o, none⟩) k, fun b o k => h.below.frozen (p := ⟨b, o, none⟩) k⟩

/-- blocks that stay as they are -/
abbrev Sub := Nat → Option Obj
def Sub.le (S T : Sub) : Prop := ∀ b o, S b = some o → T b = some o
def Sub.In (S : Sub) (w : World) : Prop := ∀ b o, S b = some o → w.heap[b]? = some o
def Sub.all (w : World) : Sub := fun b => w.heap[b]?
theorem Sub.le_refl (S : Sub) : S.le S := fun _ _ h => h
theorem Sub.le_trans {S T U : Sub} (h : S.le T) (k : T.le U) : S.le U := fun b o x => k b o (h b o x)
theorem Sub.all_in (w : World) : (Sub.all w).In w := fun _ _ h => h
theorem Sub.In.lt {S : Sub} {w : World} (h : S.In w) {b : Nat} {o : Obj} (hb : S b = some o) : b < w.heap.size := by
  have := h b o hb
  exact (Array.getElem?_eq_some_iff.1 this).1
theorem Sub.In.below {S : Sub} {w w' : World} (h : S.In w) (hb : Below w.heap.size w w') : S.In w' := fun b o x => by
  rw [hb.block b (h.lt x)]; exact h b o x
theorem Sub.In.drewN {S : Sub} {w : World} (h : S.In w) (n : Nat) : S.In (w.drewN n) := h
theorem Sub.In.grown {S : Sub} {w w' : World} {row : Option Nat} (h : S.In w) (hg : w.grownBy w' row) (hn : ∀ g, row = some g → S g = none) : S.In w' := fun b o x => by
  rw [hg.block b (h.lt x) (fun e => by rw [hn b e.symm] at x; cases x)]; exact h b o x
theorem Sub.In.setCell {S : Sub} {w : World} (h : S.In w) {p : Addr} (hn : S p.block = none) (u : Value) : S.In (w.setCell p u) := fun b o x => by
  rw [Below.heap_setCell _ _ _ _ (fun e => by rw [e, hn] at x; cases x)]; exact h b o x

/-- a call's trace in memory: nothing that was there has turned; more may stay as it is from now on, of new blocks -/
structure Grow (S : Sub) (w : World) (T : Sub) (w' : World) : Prop where
  below : Below w.heap.size w w'
  le : S.le T
  inn : T.In w'
  old : ∀ b, b < w.heap.size → T b = S b
theorem Grow.refl {S : Sub} {w : World} (h : S.In w) : Grow S w S w := ⟨Below.refl _ _, S.le_refl, h, fun _ _ => rfl⟩
theorem Grow.of_below {S : Sub} {w w' : World} (h : S.In w) (hb : Below w.heap.size w w') : Grow S w S w' := ⟨hb, S.le_refl, h.below hb, fun _ _ => rfl⟩
theorem Grow.trans {S T U : Sub} {a b c : World} (h : Grow S a T b) (k : Grow T b U c) : Grow S a U c :=
  ⟨h.below.trans (k.below.mono h.below.size), Sub.le_trans h.le k.le, k.inn, fun x hx => (k.old x (Nat.lt_of_lt_of_le hx h.below.size)).trans (h.old x hx)⟩

/-- nothing of what was there has turned but the blocks of S -/
structure Only (S : Nat → Prop) (w w' : World) : Prop where
  os : w'.os = w.os
  tape : w'.tape = w.tape
  output : w'.output = w.output
  size : w.heap.size ≤ w'.heap.size
  block : ∀ k, k < w.heap.size → ¬ S k → w'.heap[k]? = w.heap[k]?
theorem Only.refl (S : Nat → Prop) (w : World) : Only S w w := ⟨rfl, rfl, rfl, Nat.le_refl _, fun _ _ _ => rfl⟩
theorem Only.trans {S : Nat → Prop} {a b c : World} (h : Only S a b) (k : Only S b c) : Only S a c :=
  ⟨k.os.trans h.os, k.tape.trans h.tape, k.output.trans h.output, Nat.le_trans h.size k.size, fun i hi hn => (k.block i (Nat.lt_of_lt_of_le hi h.size) hn).trans (h.block i hi hn)⟩
theorem Only.mono {S T : Nat → Prop} {a b : World} (h : Only S a b) (hs : ∀ k, S k → T k) : Only T a b := ⟨h.os, h.tape, h.output, h.size, fun i hi hn => h.block i hi (fun x => hn (hs i x))⟩
theorem Only.of_below {S : Nat → Prop} {a b : World} (h : Below a.heap.size a b) : Only S a b := ⟨h.os, h.tape, h.output, h.size, fun i hi _ => h.block i hi⟩
theorem Only.below {S : Nat → Prop} {a b : World} (h : Only S a b) {N : Nat} (hN : N ≤ a.heap.size) (hs : ∀ k, S k → N ≤ k) : Below N a b :=
  ⟨h.os, h.tape, h.output, h.size, fun i hi => h.block i (Nat.lt_of_lt_of_le hi hN) (fun x => Nat.not_lt.2 (hs i x) hi)⟩
theorem Only.setCell {S : Nat → Prop} {a b : World} (h : Only S a b) {p : Addr} (hp : S p.block) (u : Value) : Only S a (b.setCell p u) :=
  h.trans ⟨rfl, rfl, rfl, by simp [World.setCell], fun k _ hn => Below.heap_setCell _ _ _ _ (fun e => hn (e ▸ hp))⟩
theorem Only.alloc {S : Nat → Prop} {a b : World} (h : Only S a b) (o : Obj) : Only S a (b.alloc o) := h.trans (.of_below (bl_alloc (Below.refl _ _) o))
theorem Only.drewN {S : Nat → Prop} {a b : World} (h : Only S a b) (n : Nat) : Only S a (b.drewN n) := ⟨h.os, h.tape, h.output, h.size, h.block⟩
theorem Only.drew {S : Nat → Prop} {a b : World} (h : Only S a b) : Only S a b.drew := ⟨h.os, h.tape, h.output, h.size, h.block⟩
theorem Sub.In.only {S : Sub} {T : Nat → Prop} {w w' : World} (h : S.In w) (ho : Only T w w') (hn : ∀ k, T k → S k = none) : S.In w' := fun b o x => by
  rw [ho.block b (h.lt x) (fun e => by rw [hn b e] at x; cases x)]; exact h b o x

/-- a block of cells, all of it, none frozen -/
def Blk (w : World) (b : Nat) (t : TypeId) (c : List Value) : Prop := w.heap[b]? = some (.cells c.toArray t (0, 0))
theorem Blk.lt {w : World} {b : Nat} {t : TypeId} {c : List Value} (h : Blk w b t c) : b < w.heap.size := (Array.getElem?_eq_some_iff.1 h).1
theorem Blk.cell {w : World} {b : Nat} {t : TypeId} {c : List Value} (h : Blk w b t c) (j : Nat) : w.cell? ⟨b, j, none⟩ = c[j]? := by
  simp only [World.cell?]
  rw [show w.heap[b]? = _ from h]
  simp
theorem Blk.free {w : World} {b : Nat} {t : TypeId} {c : List Value} (h : Blk w b t c) (j : Nat) : w.frozen? ⟨b, j, none⟩ = false := by
  simp only [World.frozen?]
  rw [show w.heap[b]? = _ from h]
  simp
theorem Blk.set {w : World} {b : Nat} {t : TypeId} {c : List Value} (h : Blk w b t c) (j : Nat) (v : Value) : Blk (w.setCell ⟨b, j, none⟩ v) b t (c.set j v) := by
  show (w.heap.modify b _)[b]? = _
  rw [Array.getElem?_modify, if_pos rfl, show w.heap[b]? = _ from h]
  simp
theorem Blk.set_other {w : World} {b : Nat} {t : TypeId} {c : List Value} (h : Blk w b t c) {p : Addr} (hp : p.block ≠ b) (v : Value) : Blk (w.setCell p v) b t c := by
  show (w.setCell p v).heap[b]? = _
  rw [Below.heap_setCell _ _ _ _ (fun e => hp e.symm)]; exact h
theorem Blk.of_eq {w w' : World} {b : Nat} {t : TypeId} {c : List Value} (h : Blk w b t c) (he : w'.heap[b]? = w.heap[b]?) : Blk w' b t c := by
  show w'.heap[b]? = _
  rw [he]; exact h
theorem Blk.below {w w' : World} {b : Nat} {t : TypeId} {c : List Value} (h : Blk w b t c) (hb : Below w.heap.size w w') : Blk w' b t c := h.of_eq (hb.block b h.lt)
theorem Blk.only {S : Nat → Prop} {w w' : World} {b : Nat} {t : TypeId} {c : List Value} (h : Blk w b t c) (ho : Only S w w') (hn : ¬ S b) : Blk w' b t c := h.of_eq (ho.block b h.lt hn)
theorem Blk.drewN {w : World} {b : Nat} {t : TypeId} {c : List Value} (h : Blk w b t c) (n : Nat) : Blk (w.drewN n) b t c := h
theorem Blk.drew {w : World} {b : Nat} {t : TypeId} {c : List Value} (h : Blk w b t c) : Blk w.drew b t c := h
theorem Blk.new (w : World) (t : TypeId) (c : List Value) : Blk (w.alloc (.cells c.toArray t)) w.heap.size t c := heap_alloc_new w _
theorem Blk.alloc {w : World} {b : Nat} {t : TypeId} {c : List Value} (h : Blk w b t c) (o : Obj) : Blk (w.alloc o) b t c := h.of_eq (Below.heap_alloc w o b h.lt)

/-- how a Lean value is laid in cells -/
structure Rp (α : Type) where
  n : Nat
  ok : Sub → List Value → α → Prop
  len : ∀ {S cs x}, ok S cs x → cs.length = n
  mono : ∀ {S T cs x}, S.le T → ok S cs x → ok T cs x

def rInt (k : IntKind) : Rp Int where
  n := 1
  ok := fun _ cs x => cs = [.int k x] ∧ (Lit.int k x).wf = true
  len := fun h => by rw [h.1]; rfl
  mono := fun _ h => h
def rByte : Rp UInt8 where
  n := 1
  ok := fun _ cs x => cs = [.int .u8 (x.toNat : Int)]
  len := fun h => by rw [h]; rfl
  mono := fun _ h => h
def rBool : Rp Bool where
  n := 1
  ok := fun _ cs x => cs = [.bool x]
  len := fun h => by rw [h]; rfl
  mono := fun _ h => h
def rStr : Rp (List UInt8) where
  n := 1
  ok := fun _ cs x => ∃ s : ByteArray, cs = [.string s] ∧ s.data.toList = x ∧ s.size ≤ maxLen
  len := fun h => by obtain ⟨s, h, _⟩ := h; rw [h]; rfl
  mono := fun _ h => h

/-- cells from an offset of a block on -/
def CellsAt (S : Sub) (b off : Nat) (cs : List Value) : Prop := ∃ c e fr, S b = some (.cells c e fr) ∧ ∀ j, j < cs.length → c[off + j]? = cs[j]?
theorem CellsAt.mono {S T : Sub} {b off : Nat} {cs : List Value} (h : CellsAt S b off cs) (hl : S.le T) : CellsAt T b off cs :=
  let ⟨c, e, fr, h1, h2⟩ := h; ⟨c, e, fr, hl _ _ h1, h2⟩
theorem CellsAt.cell {S : Sub} {b off : Nat} {cs : List Value} (h : CellsAt S b off cs) {w : World} (hw : S.In w) {j : Nat} (hj : j < cs.length) : w.cell? ⟨b, off + j, none⟩ = some cs[j] := by
  obtain ⟨c, e, fr, h1, h2⟩ := h
  have h3 := hw _ _ h1
  have h4 := h2 j hj
  simp only [World.cell?, h3]
  simpa [hj] using h4
theorem CellsAt.lt {S : Sub} {b off : Nat} {cs : List Value} (h : CellsAt S b off cs) {w : World} (hw : S.In w) : b < w.heap.size := by
  obtain ⟨c, e, fr, h1, _⟩ := h
  exact hw.lt h1
def RowAt {α : Type} (A : Rp α) (S : Sub) (b off : Nat) (xs : List α) : Prop := ∀ i (h : i < xs.length), ∃ cs, A.ok S cs xs[i] ∧ CellsAt S b (off + i * A.n) cs
theorem RowAt.mono {α : Type} {A : Rp α} {S T : Sub} {b off : Nat} {xs : List α} (h : RowAt A S b off xs) (hl : S.le T) : RowAt A T b off xs := fun i hi =>
  let ⟨cs, h1, h2⟩ := h i hi; ⟨cs, A.mono hl h1, h2.mono hl⟩
/-- a slice: nil and empty alike are [] -/
def rSl {α : Type} (A : Rp α) : Rp (List α) where
  n := 1
  ok := fun S cs xs => ∃ a cap, cs = [.slice a xs.length cap] ∧ xs.length ≤ cap ∧ cap ≤ maxLen ∧ (0 < xs.length → ∃ b off, a = some ⟨b, off, none⟩ ∧ RowAt A S b off xs)
  len := fun h => by obtain ⟨a, cap, h, _⟩ := h; rw [h]; rfl
  mono := fun hl h => let ⟨a, cap, h1, h2, h3, h4⟩ := h; ⟨a, cap, h1, h2, h3, fun h0 => let ⟨b, off, h5, h6⟩ := h4 h0; ⟨b, off, h5, h6.mono hl⟩⟩
/-- two things one behind the other -/
def rPair {α β : Type} (A : Rp α) (B : Rp β) : Rp (α × β) where
  n := A.n + B.n
  ok := fun S cs x => ∃ c1 c2, cs = c1 ++ c2 ∧ A.ok S c1 x.1 ∧ B.ok S c2 x.2
  len := fun h => by obtain ⟨c1, c2, h, h1, h2⟩ := h; rw [h, List.length_append, A.len h1, B.len h2]
  mono := fun hl h => let ⟨c1, c2, h, h1, h2⟩ := h; ⟨c1, c2, h, A.mono hl h1, B.mono hl h2⟩
/-- seen through a function -/
def rBy {α β : Type} (A : Rp α) (f : β → α) : Rp β where
  n := A.n
  ok := fun S cs x => A.ok S cs (f x)
  len := fun h => A.len h
  mono := fun hl h => A.mono hl h

/-! ### bytes of a row, in a world -/
def ByteRow (w : World) (b off : Nat) (xs : List UInt8) : Prop := ∀ i (h : i < xs.length), w.cell? ⟨b, off + i, none⟩ = some (.int .u8 (xs[i].toNat : Int))
theorem RowAt.bytes {S : Sub} {b off : Nat} {xs : List UInt8} (h : RowAt rByte S b off xs) {w : World} (hw : S.In w) : ByteRow w b off xs := fun i hi => by
  obtain ⟨cs, h1, h2⟩ := h i hi
  have h1' : cs = [.int .u8 (xs[i].toNat : Int)] := h1
  subst h1'
  have := h2.cell hw (j := 0) (by simp)
  simpa [rByte] using this

/-! ### a slice that the call builds: 'ownsRow' (the kit's), and its end: it stays as it is -/
theorem freeze {α : Type} {A : Rp α} {S : Sub} {w : World} {base e : Nat} {v : Value} {xs : List α} {css : List (List Value)} (hS : S.In w)
    (ho : w.ownsRow base e A.n v xs.length css.flatten) (hl : css.length = xs.length) (hok : ∀ i (h : i < xs.length), A.ok S (css[i]'(by omega)) xs[i])
    (hn : ∀ g, v.ownBlock = some g → S g = none) :
    ∃ T : Sub, S.le T ∧ T.In w ∧ (∀ b, v.ownBlock ≠ some b → T b = S b) ∧ (rSl A).ok T [v] xs := by
  rcases ho.2 with ⟨rfl, h0⟩ | ⟨g, cap, cur, rfl, hb, hh, hc, hm, hs, ht⟩
  · have : xs = [] := List.eq_nil_of_length_eq_zero h0
    subst this
    exact ⟨S, S.le_refl, hS, fun _ _ => rfl, none, 0, rfl, by simp, by simp [maxLen], fun h => by simp at h⟩
  · have hg : S g = none := hn g rfl
    let T : Sub := fun b => if b = g then some (.cells cur e (0, 0)) else S b
    have hle : S.le T := fun b o h => by
      show (if b = g then _ else S b) = some o
      by_cases hbg : b = g
      · subst hbg; rw [hg] at h; cases h
      · rw [if_neg hbg]; exact h
    have hTg : T g = some (.cells cur e (0, 0)) := by show (if g = g then _ else S g) = _; simp
    refine ⟨T, hle, fun b o h => ?_, fun b hbne => ?_, some ⟨g, 0, none⟩, cap, rfl, hc, hm, fun _ => ⟨g, 0, rfl, fun i hi => ⟨css[i]'(by omega), A.mono hle (hok i hi), cur, e, (0, 0), hTg, fun j hj => ?_⟩⟩⟩
    · have h' : (if b = g then some (Obj.cells cur e (0, 0)) else S b) = some o := h
      by_cases hbg : b = g
      · subst hbg; rw [if_pos rfl] at h'; rw [← h']; exact hh
      · rw [if_neg hbg] at h'; exact hS b o h'
    · show (if b = g then _ else S b) = S b
      rw [if_neg (fun e => hbne (by rw [e]; rfl))]
    · have hlen : ∀ k (hk : k < css.length), (css[k]).length = A.n := fun k hk => A.len (hok k (by omega))
      have hlt : j < A.n := by rw [← hlen i (by omega)]; exact hj
      have key : ∀ (l : List (List Value)) (hl : ∀ k (hk : k < l.length), (l[k]).length = A.n) (i : Nat) (hi : i < l.length), l.flatten[i * A.n + j]? = (l[i])[j]? := by
        intro l
        induction l with
        | nil => intro _ i hi; simp at hi
        | cons x l ih =>
          intro hl i hi
          have hx : x.length = A.n := hl 0 (by simp)
          cases i with
          | zero =>
            simp only [List.flatten_cons, Nat.zero_mul, Nat.zero_add, List.getElem_cons_zero]
            rw [List.getElem?_append_left (by omega)]
          | succ i =>
            simp only [List.flatten_cons, List.getElem_cons_succ]
            rw [List.getElem?_append_right (by rw [hx, Nat.succ_mul]; omega)]
            have : (i + 1) * A.n + j - x.length = i * A.n + j := by rw [hx, Nat.succ_mul]; omega
            rw [this]
            exact ih (fun k hk => hl (k + 1) (by simp; omega)) i (by simpa using hi)
      have h1 := key css hlen i (by omega)
      rw [← ht, List.getElem?_take] at h1
      have hbound : i * A.n + j < xs.length * A.n := by
        have : (i + 1) * A.n ≤ xs.length * A.n := Nat.mul_le_mul_right _ hi
        rw [Nat.succ_mul] at this
        omega
      rw [if_pos hbound] at h1
      rw [Nat.zero_add]
      simpa using h1
end Go.Proofs.YtepdfkgadigafaaGreatDoor
