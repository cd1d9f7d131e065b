/-
  A range over an iterator that itself goes through another iterator: what such an iterator owes ('SeqOwn': it may lay and turn blocks of its own), and what the loop over it then shows.
  Conditions: as each theorem states them; over whatever program.
-/
import Derived.RangeFuncNested
import Derived.RangeFuncBound
import Derived.RangeFuncCalls
import Derived.RangeFuncLeaves
import Derived.Shelf.Abstract
import Derived.WalkKit
import Derived.OwnWalkIn
import Derived.TacticsInMore
import Derived.LoopNIn
import Derived.LoopIn
import Derived.Test.YtjfpepinmbbnbaaDoorBase
namespace Go.Proofs.YtjfpepinmbbnbaaDoor
open Go.RowKit Go.Shelf
set_option linter.unusedVariables false

/-- all blocks from B on that were there lie as they lay -/
structure KeepsUp (B : Nat) (X Y : World) : Prop where
  size : X.heap.size ≤ Y.heap.size
  same : ∀ k, B ≤ k → k < X.heap.size → Y.heap[k]? = X.heap[k]?
theorem KeepsUp.refl (B : Nat) (X : World) : KeepsUp B X X := ⟨Nat.le_refl _, fun _ _ _ => rfl⟩
theorem KeepsUp.trans {B : Nat} {X Y Z : World} (h : KeepsUp B X Y) (k : KeepsUp B Y Z) : KeepsUp B X Z :=
  ⟨Nat.le_trans h.size k.size, fun i hi hl => (k.same i hi (Nat.lt_of_lt_of_le hl h.size)).trans (h.same i hi hl)⟩
theorem KeepsUp.mono {B B' : Nat} {X Y : World} (h : KeepsUp B X Y) (hB : B ≤ B') : KeepsUp B' X Y := ⟨h.size, fun k hk => h.same k (Nat.le_trans hB hk)⟩
theorem KeepsUp.from {B : Nat} {X Y : World} (h : KeepsUp B X Y) : KeepsFrom B X Y := ⟨h.size, fun k o hk hs _ => (h.same k hk (Array.getElem?_eq_some_iff.1 hs).1).trans hs⟩
theorem KeepsUp.alloc (B : Nat) (X : World) (o : Obj) : KeepsUp B X (X.alloc o) := ⟨by simp, fun k _ hl => Below.heap_alloc X o k hl⟩
theorem KeepsUp.setCell {B : Nat} (X : World) {p : Addr} (hp : p.block < B) (v : Value) : KeepsUp B X (X.setCell p v) :=
  ⟨by simp [World.setCell], fun k hk _ => Below.heap_setCell _ _ _ _ (by omega)⟩
theorem KeepsUp.of_below {B : Nat} {X Y : World} (h : Below X.heap.size X Y) : KeepsUp B X Y := ⟨h.size, fun k _ hl => h.block k hl⟩
theorem KeepsUp.only {B : Nat} {S : Nat → Prop} {X Y : World} (h : Only S X Y) (hS : ∀ k, S k → k < B) : KeepsUp B X Y := ⟨h.size, fun k hk hl => h.block k hl (fun hs => by have := hS k hs; omega)⟩
theorem KeepsUp.cell {B : Nat} {X Y : World} (h : KeepsUp B X Y) {b o : Nat} {v : Value} (hb : B ≤ b) (hc : X.cell? ⟨b, o, none⟩ = some v) : Y.cell? ⟨b, o, none⟩ = some v := by
  have hl := World.block_lt_of_cell? X ⟨b, o, none⟩ hc
  simp only [World.cell?] at hc ⊢
  rw [h.same b hb hl]
  exact hc
theorem only_cell {w w' : World} {S : Nat → Prop} (ho : Only S w w') {b o : Nat} (hb : b < w.heap.size) (hS : ¬ S b) : w'.cell? ⟨b, o, none⟩ = w.cell? ⟨b, o, none⟩ := by
  simp only [World.cell?]
  rw [ho.block b hb hS]
theorem only_turn {S : Nat → Prop} (A : World) {l : Nat} (o' : Obj) (hl : S l) : Only S A (A.putObj l o') :=
  ⟨rfl, rfl, rfl, by simp, fun k _ hn => World.putObj_heap_other (fun e => hn (e ▸ hl))⟩
theorem only_kb {S : Nat → Prop} {N : Nat} (hS : ∀ k, N ≤ k → S k) (W : World) (l : Nat) (o o' : Obj) (hl : N ≤ l) (h : W.heap[l]? = some o) (_ : o.isCells = false) (_ : o.isWalk = false) : Only S W (W.putObj l o') := only_turn W o' (hS l hl)
theorem only_kt {S : Nat → Prop} {A B C : World} (h : Only S A B) (k : Only S B C) : Only S A C := h.trans k
theorem ownFrom_only {β : Type} {S : Nat → Prop} {B : Nat} {w₀ : World} (hS : ∀ k, B ≤ k → S k) : OwnFrom B (fun (_ : β) W => Only S w₀ W) :=
  fun _ W W' row hs hg hr => ⟨hg.os.trans hs.os, hg.tape.trans hs.tape, hg.output.trans hs.output, Nat.le_trans hs.size hg.size, fun k hk hn => (hg.block k (Nat.lt_of_lt_of_le hk hs.size) (fun e => hn (hS k (hr k e.symm).1))).trans (hs.block k hk hn)⟩
/-- how the body of a round is left -/
def postUp {α : Type} (B : Nat) (K : Nat → Prop) (I : List α → World → Prop) (Ix : Code → List α → World → Prop) (xs : List α) (W : World) : Exit → Act → World → Prop
  | .normal, _, W' => KeepsUp B W W' ∧ Only K W W' ∧ I xs W'
  | .ret, _, W' => KeepsUp B W W' ∧ Ix .ret xs W'
  | .exit id, _, W' => KeepsUp B W W' ∧ Ix (.exit id) xs W'
  | .goto t, _, W' => KeepsUp B W W' ∧ Ix (.goto t) xs W'
  | .panic _, _, _ => False
  | .outgrown, _, _ => False

/-- what an iterator owes whose rounds leave blocks that are no cells, from the iterator's beginning on, alone: J may be asked to abide turns of such blocks -/
def SeqOwn {α : Type} (F : Fence) (n : Nat) (P : Program) (g : Nat) (lb : Array Value) (encs : α → Array Value) (K : Nat → Prop) (S Sp : List α → Prop) (N : Nat) (w : World) : Prop :=
  ∀ (l : Nat) (J Jx : List α → World → Prop) (W : World), Below w.heap.size w W → OwnFrom W.heap.size J → OwnFrom W.heap.size Jx →
    (∀ pre x A, J pre A → pre.length < N → YieldAt F (n - 1) P l (encs x) A fun e B =>
      (e = .returned (.bool true) ∧ J (pre ++ [x]) B ∧ Only K A B ∧ KeepsUp W.heap.size A B) ∨ (e = .returned (.bool false) ∧ Jx (pre ++ [x]) B ∧ KeepsUp W.heap.size A B)) →
    J [] W →
    CallsIn F n P g (#[.func (.yield l) #[] #[]] ++ lb) W fun e B => (∃ v, e = .returned v) ∧ ((∃ xs, S xs ∧ J xs B) ∨ ∃ pre, Sp pre ∧ Jx pre B)

section
variable {F : Fence} {n : Nat} {P : Program}
/-- the record of a loop and its block of deferred calls -/
def Books (D : Nat) (r : Loop) (W : World) : Prop := W.heap[D + 1]? = some (.loop r) ∧ W.heap[D]? = some (.deferred (some []))
theorem Books.lt {D : Nat} {r : Loop} {W : World} (h : Books D r W) : D + 1 < W.heap.size := (Array.getElem?_eq_some_iff.1 h.1).1
theorem Books.turn {D : Nat} {r r' : Loop} {W : World} (h : Books D r W) : Books D r' (W.putObj (D + 1) (.loop r')) :=
  ⟨World.putObj_heap_same h.lt, (World.putObj_heap_other (by omega)).trans h.2⟩
theorem Books.keeps {D : Nat} {r : Loop} {A B : World} (h : Books D r A) (hk : KeepsUp D A B) : Books D r B := ⟨(hk.same _ (by omega) h.lt).trans h.1, (hk.same _ (Nat.le_refl _) (by have := h.lt; omega)).trans h.2⟩
theorem Books.grown {D : Nat} {r : Loop} {A B : World} {row : Option Nat} (h : Books D r A) (hg : A.grownBy B row) (hr : ∀ k, row = some k → D + 2 ≤ k) : Books D r B :=
  ⟨(hg.block (D + 1) h.lt (fun e => by have := hr _ e.symm; omega)).trans h.1, (hg.block D (by have := h.lt; omega) (fun e => by have := hr _ e.symm; omega)).trans h.2⟩
theorem keepsUp_turn {D : Nat} {r : Loop} {A : World} (h : Books D r A) (r' : Loop) : KeepsUp (D + 2) A (A.putObj (D + 1) (.loop r')) :=
  ⟨by simp, fun k hk _ => World.putObj_heap_other (by omega)⟩
set_option maxHeartbeats 1000000 in
/-- THE LOOP OVER SUCH AN ITERATOR -/
theorem range_through {α : Type} {g : Operand} {ps : Array Tmp} {assign body : Code} {Q : Exit → Act → World → Prop} {a : Act} {w : World}
    (hro : F.round = none) (h1 : 1 ≤ n) {gf : Nat} {lb : Array Value} (hg : a.eval g = .func (.func gf) #[] lb) (hFg : F.fn gf) (eg : ∀ args w, (callFunc gf args).run P w = .ok (.enter gf args) w)
    {encs : α → Array Value} {K : Nat → Prop} {S Sp : List α → Prop} {N : Nat} {w0 : World} (hseq : SeqOwn F (n - 1) P gf lb encs K S Sp N w0) (hb0 : Below w0.heap.size w0 w) (hn : ∀ k, w.heap.size ≤ k → K k) (hps : ∀ x, (encs x).size = ps.size)
    (I : List α → World → Prop) (Ix : Code → List α → World → Prop) (hI : OwnFrom w.heap.size I) (hIx : ∀ c, OwnFrom w.heap.size (Ix c)) (h0 : I [] w) (a₁ : α → Act)
    (hassign : ∀ (l : Nat) (x : α) (W : World) (K : Act → World → Prop), K (a₁ x) W →
      assign.wpIn (F.inRound l) (n - 1 - 1) P (Exit.then K (fun _ _ _ => False)) { tmps := (ps.zip (encs x)).foldl (fun t (p, v) => t.setIfInBounds p v) a.tmps, defers := [] } W)
    (hbody : ∀ (l : Nat) (pre : List α) (x : α) (W : World), I pre W → pre.length < N → body.wpIn (F.inRound l) (n - 1 - 1) P (postUp w.heap.size K I Ix (pre ++ [x]) W) (a₁ x) W)
    (hdone : ∀ (D : Nat) (xs : List α) (W : World), w.heap.size ≤ D → S xs → I xs W → W.heap[D]? = some (.deferred (some [])) → Q .normal { a with defers := { target := .collected D, args := #[] } :: a.defers } W)
    (hstop : ∀ (D : Nat) (c : Code) (pre : List α) (W : World), w.heap.size ≤ D → Sp pre → Ix c pre W → W.heap[D]? = some (.deferred (some [])) → c.wpIn F n P Q { a with defers := { target := .collected D, args := #[] } :: a.defers } W) :
    (Code.rangeFunc g ps assign body).wpIn F n P Q a w := by
  refine wpIn_rangeFunc fun fn hfn => ?_
  rw [hro]
  -- the record at each of its states
  generalize hD : w.heap.size = D at *
  let r : LoopState → Option Code → Loop := fun st pe => { state := st, pending := pe, fn, tmps := a.tmps, params := ps, assign, body, defers := D }
  let W1 : World := (w.alloc (.deferred (some []))).alloc (.loop (r .ready none))
  have sz1 : W1.heap.size = D + 2 := by simp [W1, hD]
  have bk1 : Books D (r .ready none) W1 := by
    have e1 := World.alloc_heap_new (w.alloc (.deferred (some []))) (.loop (r .ready none))
    rw [World.size_alloc, hD] at e1
    have e2 := World.alloc_heap_new w (.deferred (some []))
    rw [hD] at e2
    exact ⟨e1, (Below.heap_alloc _ _ _ (by simp [hD])).trans e2⟩
  have below1 : Below w0.heap.size w0 W1 := hb0.trans ((((Below.refl _ w).alloc (Nat.le_refl _) _).alloc (by simp) _).mono hb0.size)
  have own2 : ∀ {β : Type} {J : β → World → Prop} (rr : β → Loop), OwnFrom D J → OwnFrom W1.heap.size (fun s W => J s W ∧ Books D (rr s) W) := fun rr hJ s A B row hs hgr hr =>
    ⟨hJ s A B row hs.1 hgr (fun k e => by obtain ⟨h2, h3⟩ := hr k e; exact ⟨by omega, h3⟩), hs.2.grown hgr (fun k e => by have := (hr k e).1; omega)⟩
  have he := run_enterLoop_outer (P := P) (w := w) fn a.tmps ps assign body
  rw [hD] at he
  refine ⟨D + 1, [{ target := .collected D, args := #[] }], W1, { target := .fn (.func gf) lb, args := #[.func (.yield (D + 1)) #[] #[]] }, W1, gf, #[.func (.yield (D + 1)) #[] #[]] ++ lb, W1, he, ?_, ?_, ?_, fun _ => h1, ?_⟩
  · simp only [resolve, hg]
    simp [go_sem]
  · intro f' hf'
    simp [Target.leads] at hf'
    subst hf'
    exact hFg
  · simp [invoke, go_sem, eg]
  · have seq := hseq (D + 1) (fun pre W => I pre W ∧ Books D (r .ready none) W) (fun pre W => ∃ c, Ix c pre W ∧ Books D (r .done (some c)) W) W1 below1 (own2 _ hI)
      (fun s A B row ⟨c, hs⟩ hgr hr => ⟨c, own2 (fun _ => r .done (some c)) (hIx c) s A B row hs hgr hr⟩) ?_ ⟨hI.alloc _ (hI.alloc _ h0), bk1⟩
    · refine seq.mono ?_
      rintro e W2 ⟨⟨v, rfl⟩, ⟨xs, hS, hi, hbk⟩ | ⟨pre, hSp, c, hi, hbk⟩⟩
      · exact ⟨none, _, run_endLoop (P := P) hbk.1 (by simp [r]), hdone D xs _ (Nat.le_refl _) hS (hI.putObj _ hi (by omega) hbk.1 rfl) (hbk.turn (r' := { r .ready none with state := .exhausted })).2⟩
      · exact ⟨some c, _, run_endLoop (P := P) hbk.1 (by simp [r]), hstop D c pre _ (Nat.le_refl _) hSp ((hIx c).putObj _ hi (by omega) hbk.1 rfl) (hbk.turn (r' := { r .done (some c) with state := .exhausted })).2⟩
    · rintro pre x W ⟨hi, hbk⟩ hlen
      refine ⟨fn, _, assign, body, run_yield (P := P) (args := encs x) hbk.1 (hps x), roundIn_of_wpIn hfn (hassign _ x W _ ⟨_, run_beginRound hbk.1 rfl, ?_⟩)⟩
      have busy : Books D (r .busy none) (W.putObj (D + 1) (.loop (r .busy none))) := hbk.turn
      have first := keepsUp_turn hbk (r .busy none)
      refine wpIn_mono (hbody _ pre x _ (hI.putObj _ hi (by omega) hbk.1 rfl) hlen) ?_
      have last : ∀ (jump : Option Code) (W3 : World), KeepsUp D (W.putObj (D + 1) (.loop (r .busy none))) W3 →
          (Instr.endRound (D + 1) jump).run P W3 = .ok (.bool jump.isNone) (W3.putObj (D + 1) (.loop (r (if jump.isNone then .ready else .done) jump))) ∧ Books D (r .busy none) W3 ∧
          Books D (r (if jump.isNone then .ready else .done) jump) (W3.putObj (D + 1) (.loop (r (if jump.isNone then .ready else .done) jump))) ∧
          KeepsUp W1.heap.size W (W3.putObj (D + 1) (.loop (r (if jump.isNone then .ready else .done) jump))) := fun jump W3 hk => by
        have b3 := busy.keeps hk
        refine ⟨run_endRound (P := P) jump b3.1, b3, b3.turn, ?_⟩
        rw [sz1]
        exact first.trans ((hk.mono (by omega)).trans (keepsUp_turn b3 _))
      rintro e a3 W3 hp
      cases e with
      | normal =>
        obtain ⟨hk, hbel, hi3⟩ := hp
        obtain ⟨hr, b3, b4, hkf⟩ := last none W3 hk
        exact ⟨_, _, hr, .inl ⟨rfl, ⟨hI.putObj _ hi3 (by omega) b3.1 rfl, b4⟩, ((only_turn _ _ (hn _ (by omega))).trans hbel).trans (only_turn _ _ (hn _ (by omega))), hkf⟩⟩
      | ret =>
        obtain ⟨hk, hi3⟩ := hp
        obtain ⟨hr, b3, b4, hkf⟩ := last (some .ret) W3 hk
        exact ⟨_, _, hr, .inr ⟨rfl, ⟨.ret, (hIx _).putObj _ hi3 (by omega) b3.1 rfl, b4⟩, hkf⟩⟩
      | exit id =>
        obtain ⟨hk, hi3⟩ := hp
        obtain ⟨hr, b3, b4, hkf⟩ := last (some (.exit id)) W3 hk
        exact ⟨_, _, hr, .inr ⟨rfl, ⟨.exit id, (hIx _).putObj _ hi3 (by omega) b3.1 rfl, b4⟩, hkf⟩⟩
      | goto t =>
        obtain ⟨hk, hi3⟩ := hp
        obtain ⟨hr, b3, b4, hkf⟩ := last (some (.goto t)) W3 hk
        exact ⟨_, _, hr, .inr ⟨rfl, ⟨.goto t, (hIx _).putObj _ hi3 (by omega) b3.1 rfl, b4⟩, hkf⟩⟩
      | panic ch => exact hp.elim
      | outgrown => exact hp.elim
end
/-- a round in the wide fence, wherever it is called -/
theorem roundIn_any {P : Program} {m m' l l2 : Nat} {f : FuncId} {tmps : Array Value} {assign body : Code} {w : World} {R : Ending → World → Prop} (h : RoundIn Fence.wide m P l f tmps assign body w R) : RoundIn (Fence.wide.inRound l2) m' P l f tmps assign body w R :=
  ⟨h.1, fun c cs _ => h.2 c cs (room_wide _)⟩

/-! ### the library's iterator over a slice, and a ring's own -/
/-- a slice value holds len values, in a block that S does not name -/
def Vals (S : Nat → Prop) (W : World) (sv : Value) (len : Nat) (f : Nat → Value) : Prop :=
  (sv = .slice none 0 0 ∧ len = 0) ∨ ∃ b off cap, sv = .slice (some ⟨b, off, none⟩) len cap ∧ ¬ S b ∧ b < W.heap.size ∧ ∀ j, j < len → W.cell? ⟨b, off + j, none⟩ = some (f j)
theorem Vals.only {S : Nat → Prop} {A B : World} (h : Only S A B) {sv : Value} {len : Nat} {f : Nat → Value} : Vals S A sv len f → Vals S B sv len f
  | .inl e => .inl e
  | .inr ⟨b, off, cap, e, hn, hb, hc⟩ => .inr ⟨b, off, cap, e, hn, Nat.lt_of_lt_of_le hb h.size, fun j hj => (only_cell h hb hn).trans (hc j hj)⟩
theorem Vals.weak {S T : Nat → Prop} (hT : ∀ k, T k → S k) {A : World} {sv : Value} {len : Nat} {f : Nat → Value} : Vals S A sv len f → Vals T A sv len f
  | .inl e => .inl e
  | .inr ⟨b, off, cap, e, hn, hb, hc⟩ => .inr ⟨b, off, cap, e, fun h => hn (hT b h), hb, hc⟩
end Go.Proofs.YtjfpepinmbbnbaaDoor
