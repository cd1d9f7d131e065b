/-
  A range over an iterator that itself goes through another iterator: what such an iterator owes ('SeqOwn': it may lay and turn blocks of its own), and what the loop over it then shows.
  Conditions: as each theorem states them; over whatever program.
-/
import Derived.RangeFuncNested
import Derived.RangeFuncBound
import Derived.RangeFuncCalls
import Derived.RangeFuncLeaves
import Derived.Shelf.Abstract
import Derived.WalkKit
import Derived.OwnWalkIn
import Derived.TacticsInMore
import Derived.LoopNIn
import Derived.LoopIn
import Derived.Test.YtepdfkgadigafaaGreatDoorBase
import Derived.Test.YtepdfkgadigafaaGreatDoorDlB
import Derived.ControlIn
import Derived.Stop.RegionWithIn
namespace Go.Proofs.YtepdfkgadigafaaGreatDoor
open Go.RowKit Go.Shelf
set_option linter.unusedVariables false

/-- all blocks from B on that were there lie as they lay -/
structure KeepsUp (B : Nat) (X Y : World) : Prop where
  size : X.heap.size ≤ Y.heap.size
  same : ∀ k, B ≤ k → k < X.heap.size → Y.heap[k]? = X.heap[k]?
theorem KeepsUp.refl (B : Nat) (X : World) : KeepsUp B X X := ⟨Nat.le_refl _, fun _ _ _ => rfl⟩
theorem KeepsUp.trans {B : Nat} {X Y Z : World} (h : KeepsUp B X Y) (k : KeepsUp B Y Z) : KeepsUp B X Z :=
  ⟨Nat.le_trans h.size k.size, fun i hi hl => (k.same i hi (Nat.lt_of_lt_of_le hl h.size)).trans (h.same i hi hl)⟩
theorem KeepsUp.mono {B B' : Nat} {X Y : World} (h : KeepsUp B X Y) (hB : B ≤ B') : KeepsUp B' X Y := ⟨h.size, fun k hk => h.same k (Nat.le_trans hB hk)⟩
theorem KeepsUp.from {B : Nat} {X Y : World} (h : KeepsUp B X Y) : KeepsFrom B X Y := ⟨h.size, fun k o hk hs _ => (h.same k hk (Array.getElem?_eq_some_iff.1 hs).1).trans hs⟩
theorem KeepsUp.alloc (B : Nat) (X : World) (o : Obj) : KeepsUp B X (X.alloc o) := ⟨by simp, fun k _ hl => Below.heap_alloc X o k hl⟩
theorem KeepsUp.setCell {B : Nat} (X : World) {p : Addr} (hp : p.block < B) (v : Value) : KeepsUp B X (X.setCell p v) :=
  ⟨by simp [World.setCell], fun k hk _ => Below.heap_setCell _ _ _ _ (by omega)⟩
theorem KeepsUp.of_below {B : Nat} {X Y : World} (h : Below X.heap.size X Y) : KeepsUp B X Y := ⟨h.size, fun k _ hl => h.block k hl⟩
theorem KeepsUp.only {B : Nat} {S : Nat → Prop} {X Y : World} (h : Only S X Y) (hS : ∀ k, S k → k < B) : KeepsUp B X Y := ⟨h.size, fun k hk hl => h.block k hl (fun hs => by have := hS k hs; omega)⟩
theorem KeepsUp.cell {B : Nat} {X Y : World} (h : KeepsUp B X Y) {b o : Nat} {v : Value} (hb : B ≤ b) (hc : X.cell? ⟨b, o, none⟩ = some v) : Y.cell? ⟨b, o, none⟩ = some v := by
  have hl := World.block_lt_of_cell? X ⟨b, o, none⟩ hc
  simp only [World.cell?] at hc ⊢
  rw [h.same b hb hl]
  exact hc
theorem only_cell {w w' : World} {S : Nat → Prop} (ho : Only S w w') {b o : Nat} (hb : b < w.heap.size) (hS : ¬ S b) : w'.cell? ⟨b, o, none⟩ = w.cell? ⟨b, o, none⟩ := by
  simp only [World.cell?]
  rw [ho.block b hb hS]
theorem only_turn {S : Nat → Prop} (A : World) {l : Nat} (o' : Obj) (hl : S l) : Only S A (A.putObj l o') :=
  ⟨rfl, rfl, rfl, by simp, fun k _ hn => World.putObj_heap_other (fun e => hn (e ▸ hl))⟩
theorem only_kb {S : Nat → Prop} {N : Nat} (hS : ∀ k, N ≤ k → S k) (W : World) (l : Nat) (o o' : Obj) (hl : N ≤ l) (h : W.heap[l]? = some o) (_ : o.isCells = false) (_ : o.isWalk = false) : Only S W (W.putObj l o') := only_turn W o' (hS l hl)
theorem only_kt {S : Nat → Prop} {A B C : World} (h : Only S A B) (k : Only S B C) : Only S A C := h.trans k
theorem ownFrom_only {β : Type} {S : Nat → Prop} {B : Nat} {w₀ : World} (hS : ∀ k, B ≤ k → S k) : OwnFrom B (fun (_ : β) W => Only S w₀ W) :=
  fun _ W W' row hs hg hr => ⟨hg.os.trans hs.os, hg.tape.trans hs.tape, hg.output.trans hs.output, Nat.le_trans hs.size hg.size, fun k hk hn => (hg.block k (Nat.lt_of_lt_of_le hk hs.size) (fun e => hn (hS k (hr k e.symm).1))).trans (hs.block k hk hn)⟩
/-- how the body of a round is left -/
def postUp {α : Type} (B : Nat) (K : Nat → Prop) (I : List α → World → Prop) (Ix : Code → List α → World → Prop) (xs : List α) (W : World) : Exit → Act → World → Prop
  | .normal, _, W' => KeepsUp B W W' ∧ Only K W W' ∧ I xs W'
  | .ret, _, W' => KeepsUp B W W' ∧ Ix .ret xs W'
  | .exit id, _, W' => KeepsUp B W W' ∧ Ix (.exit id) xs W'
  | .goto t, _, W' => KeepsUp B W W' ∧ Ix (.goto t) xs W'
  | .panic _, _, _ => False
  | .outgrown, _, _ => False

/-- what an iterator owes whose rounds leave blocks that are no cells, from the iterator's beginning on, alone: J may be asked to abide turns of such blocks -/
def SeqOwn {α : Type} (F : Fence) (n : Nat) (P : Program) (g : Nat) (lb : Array Value) (encs : α → Array Value) (K : Nat → Prop) (S Sp : List α → Prop) (N : Nat) (w : World) : Prop :=
  ∀ (l : Nat) (J Jx : List α → World → Prop) (W : World), Below w.heap.size w W → OwnFrom W.heap.size J → OwnFrom W.heap.size Jx →
    (∀ pre x A, J pre A → pre.length < N → YieldAt F (n - 1) P l (encs x) A fun e B =>
      (e = .returned (.bool true) ∧ J (pre ++ [x]) B ∧ Only K A B ∧ KeepsUp W.heap.size A B) ∨ (e = .returned (.bool false) ∧ Jx (pre ++ [x]) B ∧ KeepsUp W.heap.size A B)) →
    J [] W →
    CallsIn F n P g (#[.func (.yield l) #[] #[]] ++ lb) W fun e B => (∃ v, e = .returned v) ∧ ((∃ xs, S xs ∧ J xs B) ∨ ∃ pre, Sp pre ∧ Jx pre B)

section
variable {F : Fence} {n : Nat} {P : Program}
/-- the record of a loop and its block of deferred calls -/
def Books (D : Nat) (r : Loop) (W : World) : Prop := W.heap[D + 1]? = some (.loop r) ∧ W.heap[D]? = some (.deferred (some []))
theorem Books.lt {D : Nat} {r : Loop} {W : World} (h : Books D r W) : D + 1 < W.heap.size := (Array.getElem?_eq_some_iff.1 h.1).1
theorem Books.turn {D : Nat} {r r' : Loop} {W : World} (h : Books D r W) : Books D r' (W.putObj (D + 1) (.loop r')) :=
  ⟨World.putObj_heap_same h.lt, (World.putObj_heap_other (by omega)).trans h.2⟩
theorem Books.keeps {D : Nat} {r : Loop} {A B : World} (h : Books D r A) (hk : KeepsUp D A B) : Books D r B := ⟨(hk.same _ (by omega) h.lt).trans h.1, (hk.same _ (Nat.le_refl _) (by have := h.lt; omega)).trans h.2⟩
theorem Books.grown {D : Nat} {r : Loop} {A B : World} {row : Option Nat} (h : Books D r A) (hg : A.grownBy B row) (hr : ∀ k, row = some k → D + 2 ≤ k) : Books D r B :=
  ⟨(hg.block (D + 1) h.lt (fun e => by have := hr _ e.symm; omega)).trans h.1, (hg.block D (by have := h.lt; omega) (fun e => by have := hr _ e.symm; omega)).trans h.2⟩
theorem keepsUp_turn {D : Nat} {r : Loop} {A : World} (h : Books D r A) (r' : Loop) : KeepsUp (D + 2) A (A.putObj (D + 1) (.loop r')) :=
  ⟨by simp, fun k hk _ => World.putObj_heap_other (by omega)⟩
set_option maxHeartbeats 1000000 in
/-- THE LOOP OVER SUCH AN ITERATOR -/
theorem range_through {α : Type} {g : Operand} {ps : Array Tmp} {assign body : Code} {Q : Exit → Act → World → Prop} {a : Act} {w : World}
    (hro : F.round = none) (h1 : 1 ≤ n) {gf : Nat} {lb : Array Value} (hg : a.eval g = .func (.func gf) #[] lb) (hFg : F.fn gf) (eg : ∀ args w, (callFunc gf args).run P w = .ok (.enter gf args) w)
    {encs : α → Array Value} {K : Nat → Prop} {S Sp : List α → Prop} {N : Nat} {w0 : World} (hseq : SeqOwn F (n - 1) P gf lb encs K S Sp N w0) (hb0 : Below w0.heap.size w0 w) (hn : ∀ k, w.heap.size ≤ k → K k) (hps : ∀ x, (encs x).size = ps.size)
    (I : List α → World → Prop) (Ix : Code → List α → World → Prop) (hI : OwnFrom w.heap.size I) (hIx : ∀ c, OwnFrom w.heap.size (Ix c)) (h0 : I [] w) (a₁ : α → Act)
    (hassign : ∀ (l : Nat) (x : α) (W : World) (K : Act → World → Prop), K (a₁ x) W →
      assign.wpIn (F.inRound l) (n - 1 - 1) P (Exit.then K (fun _ _ _ => False)) { tmps := (ps.zip (encs x)).foldl (fun t (p, v) => t.setIfInBounds p v) a.tmps, defers := [] } W)
    (hbody : ∀ (l : Nat) (pre : List α) (x : α) (W : World), I pre W → pre.length < N → body.wpIn (F.inRound l) (n - 1 - 1) P (postUp w.heap.size K I Ix (pre ++ [x]) W) (a₁ x) W)
    (hdone : ∀ (D : Nat) (xs : List α) (W : World), w.heap.size ≤ D → S xs → I xs W → W.heap[D]? = some (.deferred (some [])) → Q .normal { a with defers := { target := .collected D, args := #[] } :: a.defers } W)
    (hstop : ∀ (D : Nat) (c : Code) (pre : List α) (W : World), w.heap.size ≤ D → Sp pre → Ix c pre W → W.heap[D]? = some (.deferred (some [])) → c.wpIn F n P Q { a with defers := { target := .collected D, args := #[] } :: a.defers } W) :
    (Code.rangeFunc g ps assign body).wpIn F n P Q a w := by
  refine wpIn_rangeFunc fun fn hfn => ?_
  rw [hro]
  -- the record at each of its states
  generalize hD : w.heap.size = D at *
  let r : LoopState → Option Code → Loop := fun st pe => { state := st, pending := pe, fn, tmps := a.tmps, params := ps, assign, body, defers := D }
  let W1 : World := (w.alloc (.deferred (some []))).alloc (.loop (r .ready none))
  have sz1 : W1.heap.size = D + 2 := by simp [W1, hD]
  have bk1 : Books D (r .ready none) W1 := by
    have e1 := World.alloc_heap_new (w.alloc (.deferred (some []))) (.loop (r .ready none))
    rw [World.size_alloc, hD] at e1
    have e2 := World.alloc_heap_new w (.deferred (some []))
    rw [hD] at e2
    exact ⟨e1, (Below.heap_alloc _ _ _ (by simp [hD])).trans e2⟩
  have below1 : Below w0.heap.size w0 W1 := hb0.trans ((((Below.refl _ w).alloc (Nat.le_refl _) _).alloc (by simp) _).mono hb0.size)
  have own2 : ∀ {β : Type} {J : β → World → Prop} (rr : β → Loop), OwnFrom D J → OwnFrom W1.heap.size (fun s W => J s W ∧ Books D (rr s) W) := fun rr hJ s A B row hs hgr hr =>
    ⟨hJ s A B row hs.1 hgr (fun k e => by obtain ⟨h2, h3⟩ := hr k e; exact ⟨by omega, h3⟩), hs.2.grown hgr (fun k e => by have := (hr k e).1; omega)⟩
  have he := run_enterLoop_outer (P := P) (w := w) fn a.tmps ps assign body
  rw [hD] at he
  refine ⟨D + 1, [{ target := .collected D, args := #[] }], W1, { target := .fn (.func gf) lb, args := #[.func (.yield (D + 1)) #[] #[]] }, W1, gf, #[.func (.yield (D + 1)) #[] #[]] ++ lb, W1, he, ?_, ?_, ?_, fun _ => h1, ?_⟩
  · simp only [resolve, hg]
    simp [go_sem]
  · intro f' hf'
    simp [Target.leads] at hf'
    subst hf'
    exact hFg
  · simp [invoke, go_sem, eg]
  · have seq := hseq (D + 1) (fun pre W => I pre W ∧ Books D (r .ready none) W) (fun pre W => ∃ c, Ix c pre W ∧ Books D (r .done (some c)) W) W1 below1 (own2 _ hI)
      (fun s A B row ⟨c, hs⟩ hgr hr => ⟨c, own2 (fun _ => r .done (some c)) (hIx c) s A B row hs hgr hr⟩) ?_ ⟨hI.alloc _ (hI.alloc _ h0), bk1⟩
    · refine seq.mono ?_
      rintro e W2 ⟨⟨v, rfl⟩, ⟨xs, hS, hi, hbk⟩ | ⟨pre, hSp, c, hi, hbk⟩⟩
      · exact ⟨none, _, run_endLoop (P := P) hbk.1 (by simp [r]), hdone D xs _ (Nat.le_refl _) hS (hI.putObj _ hi (by omega) hbk.1 rfl) (hbk.turn (r' := { r .ready none with state := .exhausted })).2⟩
      · exact ⟨some c, _, run_endLoop (P := P) hbk.1 (by simp [r]), hstop D c pre _ (Nat.le_refl _) hSp ((hIx c).putObj _ hi (by omega) hbk.1 rfl) (hbk.turn (r' := { r .done (some c) with state := .exhausted })).2⟩
    · rintro pre x W ⟨hi, hbk⟩ hlen
      refine ⟨fn, _, assign, body, run_yield (P := P) (args := encs x) hbk.1 (hps x), roundIn_of_wpIn hfn (hassign _ x W _ ⟨_, run_beginRound hbk.1 rfl, ?_⟩)⟩
      have busy : Books D (r .busy none) (W.putObj (D + 1) (.loop (r .busy none))) := hbk.turn
      have first := keepsUp_turn hbk (r .busy none)
      refine wpIn_mono (hbody _ pre x _ (hI.putObj _ hi (by omega) hbk.1 rfl) hlen) ?_
      have last : ∀ (jump : Option Code) (W3 : World), KeepsUp D (W.putObj (D + 1) (.loop (r .busy none))) W3 →
          (Instr.endRound (D + 1) jump).run P W3 = .ok (.bool jump.isNone) (W3.putObj (D + 1) (.loop (r (if jump.isNone then .ready else .done) jump))) ∧ Books D (r .busy none) W3 ∧
          Books D (r (if jump.isNone then .ready else .done) jump) (W3.putObj (D + 1) (.loop (r (if jump.isNone then .ready else .done) jump))) ∧
          KeepsUp W1.heap.size W (W3.putObj (D + 1) (.loop (r (if jump.isNone then .ready else .done) jump))) := fun jump W3 hk => by
        have b3 := busy.keeps hk
        refine ⟨run_endRound (P := P) jump b3.1, b3, b3.turn, ?_⟩
        rw [sz1]
        exact first.trans ((hk.mono (by omega)).trans (keepsUp_turn b3 _))
      rintro e a3 W3 hp
      cases e with
      | normal =>
        obtain ⟨hk, hbel, hi3⟩ := hp
        obtain ⟨hr, b3, b4, hkf⟩ := last none W3 hk
        exact ⟨_, _, hr, .inl ⟨rfl, ⟨hI.putObj _ hi3 (by omega) b3.1 rfl, b4⟩, ((only_turn _ _ (hn _ (by omega))).trans hbel).trans (only_turn _ _ (hn _ (by omega))), hkf⟩⟩
      | ret =>
        obtain ⟨hk, hi3⟩ := hp
        obtain ⟨hr, b3, b4, hkf⟩ := last (some .ret) W3 hk
        exact ⟨_, _, hr, .inr ⟨rfl, ⟨.ret, (hIx _).putObj _ hi3 (by omega) b3.1 rfl, b4⟩, hkf⟩⟩
      | exit id =>
        obtain ⟨hk, hi3⟩ := hp
        obtain ⟨hr, b3, b4, hkf⟩ := last (some (.exit id)) W3 hk
        exact ⟨_, _, hr, .inr ⟨rfl, ⟨.exit id, (hIx _).putObj _ hi3 (by omega) b3.1 rfl, b4⟩, hkf⟩⟩
      | goto t =>
        obtain ⟨hk, hi3⟩ := hp
        obtain ⟨hr, b3, b4, hkf⟩ := last (some (.goto t)) W3 hk
        exact ⟨_, _, hr, .inr ⟨rfl, ⟨.goto t, (hIx _).putObj _ hi3 (by omega) b3.1 rfl, b4⟩, hkf⟩⟩
      | panic ch => exact hp.elim
      | outgrown => exact hp.elim
end
/-- a round in the wide fence, wherever it is called -/
theorem roundIn_any {P : Program} {m m' l l2 : Nat} {f : FuncId} {tmps : Array Value} {assign body : Code} {w : World} {R : Ending → World → Prop} (h : RoundIn Fence.wide m P l f tmps assign body w R) : RoundIn (Fence.wide.inRound l2) m' P l f tmps assign body w R :=
  ⟨h.1, fun c cs _ => h.2 c cs (room_wide _)⟩

/-! ### the library's iterator over a slice, and a ring's own -/
/-- a slice value holds len values, in a block that S does not name -/
def Vals (S : Nat → Prop) (W : World) (sv : Value) (len : Nat) (f : Nat → Value) : Prop :=
  (sv = .slice none 0 0 ∧ len = 0) ∨ ∃ b off cap, sv = .slice (some ⟨b, off, none⟩) len cap ∧ ¬ S b ∧ b < W.heap.size ∧ ∀ j, j < len → W.cell? ⟨b, off + j, none⟩ = some (f j)
theorem Vals.only {S : Nat → Prop} {A B : World} (h : Only S A B) {sv : Value} {len : Nat} {f : Nat → Value} : Vals S A sv len f → Vals S B sv len f
  | .inl e => .inl e
  | .inr ⟨b, off, cap, e, hn, hb, hc⟩ => .inr ⟨b, off, cap, e, hn, Nat.lt_of_lt_of_le hb h.size, fun j hj => (only_cell h hb hn).trans (hc j hj)⟩
theorem Vals.weak {S T : Nat → Prop} (hT : ∀ k, T k → S k) {A : World} {sv : Value} {len : Nat} {f : Nat → Value} : Vals S A sv len f → Vals T A sv len f
  | .inl e => .inl e
  | .inr ⟨b, off, cap, e, hn, hb, hc⟩ => .inr ⟨b, off, cap, e, fun h => hn (hT b h), hb, hc⟩
end Go.Proofs.YtepdfkgadigafaaGreatDoor
/-
  Contracts of a change turned round, of the library's way through a list of changes from behind, and of Undo, of chapter 23.
  Conditions: as each theorem states them.
-/
namespace Go.Proofs.YtepdfkgadigafaaGreatDoor
open Go.RowKit Go.Shelf
set_option linter.unusedVariables false
set_option linter.unusedSimpArgs false
attribute [local go_sem] Oper.semAt_some
set_option maxHeartbeats 1000000 in
theorem turned_any (f p : Int) (oa na : Option Addr) (on oc nn nc : Nat) (w : World) :
    Calls Tryz.prog 31 #[.agg #[.int .i64 f, .int .i64 p, .slice oa on oc, .slice na nn nc]] w fun e w' =>
      e = .returned (.agg #[.int .i64 f, .int .i64 p, .slice na nn nc, .slice oa on oc]) ∧ Below w.heap.size w w' := by
  go_enter Tryz.func31, Tryz.ntmps31
  go_wp2
  exact bodyPost_ret (v := .agg #[.int .i64 f, .int .i64 p, .slice na nn nc, .slice oa on oc]) (by simp [results, Tryz.results31, go_sem]) rfl ⟨rfl, by
    repeat (first | exact Below.refl _ _ | refine bl_alloc ?_ _ | refine bl_setCell ?_ (by simp) _)⟩
/-- from behind: the first k of them -/
def rv (len k : Nat) : List Nat := (List.range k).map fun j => len - 1 - j
theorem rv_succ (len k : Nat) : rv len (k + 1) = rv len k ++ [len - 1 - k] := by unfold rv; rw [List.range_succ, List.map_append]; rfl
theorem rv_length (len k : Nat) : (rv len k).length = k := by simp [rv]
def chV (cs : Nat → Value × Value × Value × Value) (x : Nat) : Value := .agg #[(cs x).1, (cs x).2.1, (cs x).2.2.1, (cs x).2.2.2]
set_option maxRecDepth 100000 in
set_option maxHeartbeats 2000000 in
theorem back_in (l Bs b off len cap : Nat) (S : Nat → Prop) (cs : Nat → Value × Value × Value × Value) (hreach : len ≤ 100000) (hb : ¬ S b) (hBS : ¬ S Bs) (J Jx : List Nat → World → Prop)
    (hY : ∀ pre (x : Nat) W, J pre W → pre.length < len → YieldAt Fence.wide (3 - 1) Tryz.prog l #[.int .i64 (x : Int), chV cs x] W fun e W' =>
      (e = .returned (.bool true) ∧ J (pre ++ [x]) W' ∧ Only S W W') ∨ (e = .returned (.bool false) ∧ Jx (pre ++ [x]) W'))
    (W : World) (hBW : Bs < W.heap.size) (hBs : W.cell? ⟨Bs, 0, none⟩ = some (.slice (some ⟨b, off, none⟩) len cap)) (hbW : b < W.heap.size)
    (hc : ∀ j, j < len → W.cell? ⟨b, off + j * 4, none⟩ = some (cs j).1 ∧ W.cell? ⟨b, off + j * 4 + 1, none⟩ = some (cs j).2.1 ∧ W.cell? ⟨b, off + j * 4 + 2, none⟩ = some (cs j).2.2.1 ∧ W.cell? ⟨b, off + j * 4 + 3, none⟩ = some (cs j).2.2.2) (h0 : J [] W) :
    CallsIn Fence.wide 3 Tryz.prog 59 #[.func (.yield l) #[] #[], .pointer (some ⟨Bs, 0, none⟩)] W fun e W' => (∃ v, e = .returned v) ∧
      ((∃ ys, ys = rv len len ∧ J ys W') ∨ (∃ pre, (∃ k, k ≤ len ∧ pre = rv len k) ∧ Jx pre W')) := by
  replace hc := Lib.hid hc
  refine callsIn_of_wp Tryz.func59 rfl trivial ?_ rfl
  simp only [Tryz.ntmps59, List.size_toArray, List.length_cons, List.length_nil, Nat.reduceAdd, Nat.reduceSub, Array.replicate_succ, Array.replicate_zero, List.push_toArray, List.append_toArray, List.nil_append, List.cons_append]
  gi_wp2
  gi_loopw [3] (fun i wr => ∃ k : Nat, k ≤ len ∧ i = .int .i64 ((len : Int) - 1 - (k : Int)) ∧ J (rv len k) wr ∧ Only S W wr)
    (fun i _ => (intOf i + 1).toNat)
  case atStart => exact ⟨0, Nat.zero_le _, by simp, h0, Only.refl _ _⟩
  case round =>
    obtain ⟨k, hk, rfl, hJs, hnx⟩ := hrel
    have hBr := (only_cell hnx hBW hBS (o := 0)).trans hBs
    by_cases hlt : k < len
    · obtain ⟨j, hj⟩ : ∃ j : Nat, j = len - 1 - k := ⟨_, rfl⟩
      have e0 : (len : Int) - 1 - (k : Int) = (j : Int) := by omega
      rw [e0]
      have hjl : j < len := by omega
      obtain ⟨c1, c2, c3, c4⟩ := hc.out j hjl
      have d1 := (only_cell hnx hbW hb).trans c1
      have d2 := (only_cell hnx hbW hb).trans c2
      have d3 := (only_cell hnx hbW hb).trans c3
      have d4 := (only_cell hnx hbW hb).trans c4
      obtain ⟨fn, tmps, assign, body, hy, hR⟩ := hY _ j wr hJs (by rw [rv_length]; exact hlt)
      rw [hj, ← rv_succ] at hR
      unfold chV at hy
      try dsimp only at hy
      clear c1 c2 c3 c4 e0
      have hjI : (0 : Int) ≤ j := by omega
      replace hj := Lib.hid hj
      gi_wp2
      refine hR.mono ?_
      rintro e W3 (⟨rfl, hJ3, hk3⟩ | ⟨rfl, hJx3⟩)
      · gi_wp2
        go_roundw
        case rel => exact ⟨k + 1, by omega, by have := hj.out; exact congrArg (Value.int .i64) (by omega), hJ3, hnx.trans hk3⟩
        case measure => simp [intOf]
      · gi_wp2
        refine bodyPost_ret (results_none rfl _ _ _) rfl ?_
        exact ⟨⟨_, rfl⟩, .inr ⟨_, ⟨k + 1, by omega, rfl⟩, hJx3⟩⟩
    · obtain rfl : k = len := by omega
      have e0 : (k : Int) - 1 - (k : Int) = -1 := by omega
      rw [e0]
      clear e0
      gi_wp2
      go_end0
      exact ⟨⟨_, rfl⟩, .inl ⟨_, rfl, hJs⟩⟩
set_option maxRecDepth 100000 in
set_option maxHeartbeats 1000000 in
theorem backNil_in (l Bs : Nat) (a : Option Addr) (cap : Nat) (J : List Nat → World → Prop) (W : World) (hBs : W.cell? ⟨Bs, 0, none⟩ = some (.slice a 0 cap)) (h0 : J [] W) :
    CallsIn Fence.wide 3 Tryz.prog 59 #[.func (.yield l) #[] #[], .pointer (some ⟨Bs, 0, none⟩)] W fun e W' => (∃ v, e = .returned v) ∧ J [] W' := by
  refine callsIn_of_wp Tryz.func59 rfl trivial ?_ rfl
  simp only [Tryz.ntmps59, List.size_toArray, List.length_cons, List.length_nil, Nat.reduceAdd, Nat.reduceSub, Array.replicate_succ, Array.replicate_zero, List.push_toArray, List.append_toArray, List.nil_append, List.cons_append]
  gi_wp2
  gi_loopw [3] (fun i wr => i = .int .i64 (-1) ∧ J [] wr) (fun _ _ => 0)
  case atStart => exact ⟨rfl, h0⟩
  case round =>
    obtain ⟨rfl, hJs⟩ := hrel
    gi_wp2
    go_end0
    exact ⟨⟨_, rfl⟩, hJs⟩
/-- the cells of the changes, as a function of their number -/
def chCells (W : World) (b off len : Nat) (cs : Nat → Value × Value × Value × Value) : Prop :=
  ∀ j, j < len → W.cell? ⟨b, off + j * 4, none⟩ = some (cs j).1 ∧ W.cell? ⟨b, off + j * 4 + 1, none⟩ = some (cs j).2.1 ∧ W.cell? ⟨b, off + j * 4 + 2, none⟩ = some (cs j).2.2.1 ∧ W.cell? ⟨b, off + j * 4 + 3, none⟩ = some (cs j).2.2.2
theorem backStops (Bs : Nat) (a : Option Addr) (len cap : Nat) (S : Nat → Prop) (cs : Nat → Value × Value × Value × Value) (hreach : len ≤ 100000) (w : World) (hBs : Bs < w.heap.size) (hBS : ¬ S Bs)
    (hc : w.cell? ⟨Bs, 0, none⟩ = some (.slice a len cap)) (hI : 0 < len → ∃ b off, a = some ⟨b, off, none⟩ ∧ b < w.heap.size ∧ ¬ S b ∧ chCells w b off len cs) :
    SeqStopsK Fence.wide 3 Tryz.prog 59 #[.pointer (some ⟨Bs, 0, none⟩)] (fun x : Nat => #[Value.int .i64 (x : Int), chV cs x]) (Only S) (fun ys => ys = rv len len)
      (fun pre => ∃ k, k ≤ len ∧ pre = rv len k) len w := fun l J Jx W hW _ _ hY h0 => by
  have hc' := (hW.cell (p := ⟨Bs, 0, none⟩) hBs).trans hc
  rcases Nat.eq_zero_or_pos len with rfl | hp
  · exact (backNil_in l Bs a cap J W hc' h0).mono fun e W' ⟨he, hj⟩ => ⟨he, .inl ⟨_, rfl, hj⟩⟩
  · obtain ⟨b, off, rfl, hb, hn, hcs⟩ := hI hp
    exact back_in l Bs b off len cap S cs hreach hn hBS J Jx hY W (Nat.lt_of_lt_of_le hBs hW.size) hc' (Nat.lt_of_lt_of_le hb hW.size)
      (fun j hj => let ⟨c1, c2, c3, c4⟩ := hcs j hj; ⟨(hW.cell (p := ⟨b, _, none⟩) hb).trans c1, (hW.cell (p := ⟨b, _, none⟩) hb).trans c2, (hW.cell (p := ⟨b, _, none⟩) hb).trans c3, (hW.cell (p := ⟨b, _, none⟩) hb).trans c4⟩) h0
theorem backward_any (a : Option Addr) (len cap : Nat) (w : World) :
    Calls Tryz.prog 30 #[.slice a len cap] w fun e w' => e = .returned (.func (.func 59) #[] #[.pointer (some ⟨w.heap.size, 0, none⟩)]) ∧ w' = w.alloc (.cells #[.slice a len cap] 38) := by
  go_enter Tryz.func30, Tryz.ntmps30
  go_wp2
  go_ret
  exact ⟨rfl, rfl⟩
/-! ### what is said of cells abides turns of blocks that are none -/
theorem gown {W W' : World} {row : Option Nat} (hg : W.grownBy W' row) (hr : ∀ r, row = some r → ∃ o : Obj, W.heap[r]? = some o ∧ o.isCells = false) {b o : Nat} {v : Value} (h : W.cell? ⟨b, o, none⟩ = some v) : W'.heap[b]? = W.heap[b]? := by
  obtain ⟨ob, h1, h2⟩ := cells_of_cell h
  exact hg.block b (Array.getElem?_eq_some_iff.1 h1).1 (fun e => by
    obtain ⟨o', h3, h4⟩ := hr b e.symm
    have h1' : W.heap[b]? = some ob := h1
    rw [h1'] at h3; cases h3; rw [h2] at h4; cases h4)
section
variable {W W' : World} {row : Option Nat} (hg : W.grownBy W' row) (hr : ∀ r, row = some r → ∃ o : Obj, W.heap[r]? = some o ∧ o.isCells = false)
include hg hr
theorem ByAt.grown {K : Nat → Prop} {own : Bool} {a : Option Addr} {xs : List UInt8} (h : ByAt K own W a xs) : ByAt K own W' a xs := fun h0 => by
  obtain ⟨b, o, e, k, l, f, r⟩ := h h0
  have hb := gown hg hr (r 0 h0)
  exact ⟨b, o, e, k, Nat.lt_of_lt_of_le l hg.size, fun x i hi => (frozen_keep hb).trans (f x i hi), fun i hi => (cell_keep hb).trans (r i hi)⟩
theorem TxCell.grown {K : Nat → Prop} {own : Bool} {v : Option Value} {x : List UInt8} (h : TxCell K own W v x) : TxCell K own W' v x := let ⟨a, c, e, h1, h2, h3⟩ := h; ⟨a, c, e, h1, h2, h3.grown hg hr⟩
theorem OutAt.grown {K : Nat → Prop} {own : Bool} {a : Option Addr} {xs : List (List UInt8)} (h : OutAt K own W a xs) : OutAt K own W' a xs := fun h0 => by
  obtain ⟨g, e, k, l, f, r⟩ := h h0
  obtain ⟨xa, xc, e1, _⟩ := r 0 h0
  have hb := gown hg hr e1
  exact ⟨g, e, k, Nat.lt_of_lt_of_le l hg.size, fun i hi => (frozen_keep hb).trans (f i hi), fun i hi => by rw [cell_keep hb]; exact (r i hi).grown hg hr⟩
end
end Go.Proofs.YtepdfkgadigafaaGreatDoor
/-
  The contract of Undo, of chapter 23.
  Conditions: as each theorem states them.
-/
namespace Go.Proofs.YtepdfkgadigafaaGreatDoor
open Go.RowKit Go.Shelf
set_option linter.unusedVariables false
set_option linter.unusedSimpArgs false
attribute [local go_sem] Oper.semAt_some
def dfl : DM.Chg := ⟨0, 0, [], []⟩
def gd (ds : List DM.Chg) (i : Nat) : DM.Chg := ds.getD i dfl
def tn (ds : List DM.Chg) (i : Nat) : DM.Chg := (gd ds i).turned
theorem gd_lt {ds : List DM.Chg} {i : Nat} (h : i < ds.length) : gd ds i = ds[i] := by simp [gd, List.getD, h]
theorem gd_ge {ds : List DM.Chg} {i : Nat} (h : ¬ i < ds.length) : gd ds i = dfl := by
  unfold gd; rw [List.getD_eq_getElem?_getD, List.getElem?_eq_none (by omega)]; rfl
theorem rv_map {ds : List DM.Chg} {k : Nat} (h : k ≤ ds.length) : (rv ds.length k).map (tn ds) = (ds.reverse.map DM.Chg.turned).take k := by
  apply List.ext_getElem
  · simp [rv]; omega
  · intro i h1 h2
    simp only [rv, List.map_map, List.length_map, List.length_range] at h1
    simp only [rv, List.map_map, List.getElem_map, List.getElem_range, List.getElem_take, List.getElem_reverse, Function.comp, tn]
    rw [gd_lt (by omega)]
theorem undo_rv (ds : List DM.Chg) (xs : List (List UInt8)) : DM.undo ds xs = DM.apply ((rv ds.length ds.length).map (tn ds)) xs := by
  rw [rv_map (Nat.le_refl _), List.take_of_length_le (by simp)]; rfl
theorem undo_none {ds : List DM.Chg} {xs : List (List UInt8)} {k : Nat} (hk : k ≤ ds.length) (h : DM.apply ((rv ds.length k).map (tn ds)) xs = none) : DM.undo ds xs = none := by
  rw [rv_map hk] at h
  unfold DM.undo
  rw [← List.take_append_drop k (ds.reverse.map DM.Chg.turned), DM.apply_append, h]
  rfl
theorem apply_snoc {ds : List DM.Chg} {pre : List Nat} {x : Nat} {xs ys : List (List UInt8)} (h : DM.apply (pre.map (tn ds)) xs = some ys) : DM.apply ((pre ++ [x]).map (tn ds)) xs = DM.put ys (tn ds x) := by
  rw [List.map_append, DM.apply_append, h]
  simp [DM.apply]
/-- the changes' cells -/
theorem ChAt.cells {w : World} {a : Option Addr} {ds : List DM.Chg} {K : Nat → Prop} (h : ChAt K w a ds) (hl : ∀ i (h : i < ds.length), ds[i].old.length ≤ 9000 ∧ ds[i].new.length ≤ 9000) :
    ∃ (oa na : Nat → Option Addr) (oc nc : Nat → Nat), (0 < ds.length → ∃ b off, a = some ⟨b, off, none⟩ ∧ K b ∧ b < w.heap.size ∧ chCells w b off ds.length (fun j => (.int .i64 (gd ds j).field, .int .i64 (gd ds j).pos, .slice (oa j) (gd ds j).old.length (oc j), .slice (na j) (gd ds j).new.length (nc j)))) ∧
      ∀ j, ChVal w (gd ds j) (oa j) (oc j) (na j) (nc j) := by
  by_cases h0 : 0 < ds.length
  · obtain ⟨b, o, e, k, l, r⟩ := h h0
    have hx : ∀ j, j < ds.length → ∃ y : (Option Addr × Nat) × (Option Addr × Nat), w.cell? ⟨b, o + j * 4 + 2, none⟩ = some (.slice y.1.1 (gd ds j).old.length y.1.2) ∧ w.cell? ⟨b, o + j * 4 + 3, none⟩ = some (.slice y.2.1 (gd ds j).new.length y.2.2) ∧ ChVal w (gd ds j) y.1.1 y.1.2 y.2.1 y.2.2 := fun j hj => by
      obtain ⟨c1, c2, ⟨xa, xc, c3, h3, h3', b3⟩, ⟨ya, yc, c4, h4, h4', b4⟩⟩ := r j hj
      rw [gd_lt hj]
      have := hl j hj
      exact ⟨((xa, xc), (ya, yc)), c3, c4, by omega, h3, h3', by omega, h4, h4', b3.any, b4.any⟩
    obtain ⟨f, hf⟩ := Deep.choose_lt (α := (Option Addr × Nat) × (Option Addr × Nat)) hx
    refine ⟨fun j => if j < ds.length then (f j).1.1 else none, fun j => if j < ds.length then (f j).2.1 else none, fun j => if j < ds.length then (f j).1.2 else 0, fun j => if j < ds.length then (f j).2.2 else 0, fun _ => ⟨b, o, e, k, l, fun j hj => ?_⟩, fun j => ?_⟩
    · simp only [if_pos hj]
      refine ⟨?_, ?_, (hf j hj).1, (hf j hj).2.1⟩
      · rw [gd_lt hj]; exact (r j hj).f
      · rw [gd_lt hj]; exact (r j hj).p
    · by_cases hj : j < ds.length
      · simp only [if_pos hj]
        exact (hf j hj).2.2
      · simp only [if_neg hj]
        rw [gd_ge hj]
        exact ⟨by simp [dfl], by simp [dfl], by simp [maxLen], by simp [dfl], by simp [dfl], by simp [maxLen], ByAt.nil _ _ _ _, ByAt.nil _ _ _ _⟩
  · refine ⟨fun _ => none, fun _ => none, fun _ => 0, fun _ => 0, fun h => absurd h h0, fun j => ?_⟩
    rw [gd_ge (by omega)]
    exact ⟨by simp [dfl], by simp [dfl], by simp [maxLen], by simp [dfl], by simp [dfl], by simp [maxLen], ByAt.nil _ _ _ _, ByAt.nil _ _ _ _⟩
theorem ChVal.turned {w : World} {c : DM.Chg} {oa na : Option Addr} {oc nc : Nat} (h : ChVal w c oa oc na nc) : ChVal w c.turned na nc oa oc := ⟨h.n1, h.n2, h.n3, h.o1, h.o2, h.o3, h.new, h.old⟩
theorem ChVal.only {S : Nat → Prop} {w w' : World} {c : DM.Chg} {oa na : Option Addr} {oc nc : Nat} {K : Nat → Prop} (h : ChVal w c oa oc na nc) (ho : ByAt K false w oa c.old) (hn : ByAt K false w na c.new) (hS : Only S w w') (hK : ∀ b, K b → ¬ S b) : ChVal w' c oa oc na nc :=
  ⟨h.o1, h.o2, h.o3, h.n1, h.n2, h.n3, (ho.only hS hK).any, (hn.only hS hK).any⟩
theorem ChVal.only' {N : Nat} {S : Nat → Prop} {w w' : World} {c : DM.Chg} {oa na : Option Addr} {oc nc : Nat} (h : ChVal w c oa oc na nc) (hN : N = w.heap.size) (hS : Only S w w') (hK : ∀ b, b < N → ¬ S b) : ChVal w' c oa oc na nc := by
  subst hN
  exact h.only (h.old.lt.mono fun b h => h.2) (h.new.lt.mono fun b h => h.2) hS hK
theorem gd_old {ds : List DM.Chg} (h : ∀ i (h : i < ds.length), ds[i].old.length ≤ 9000 ∧ ds[i].new.length ≤ 9000) (x : Nat) : (gd ds x).old.length ≤ 9000 := by
  by_cases hx : x < ds.length
  · rw [gd_lt hx]; exact (h x hx).1
  · rw [gd_ge hx]; simp [dfl]
theorem OutAt.mono {K L : Nat → Prop} {own : Bool} {w : World} {a : Option Addr} {xs : List (List UInt8)} (h : OutAt K own w a xs) (hK : ∀ b, K b → L b) : OutAt L own w a xs :=
  fun h0 => let ⟨g, e, k, l, f, r⟩ := h h0
    ⟨g, e, hK _ k, l, f, fun i hi => let ⟨xa, xc, e, h1, h2, h3⟩ := r i hi; ⟨xa, xc, e, h1, h2, h3.mono (fun b hb => ⟨hK b hb.1, hb.2⟩)⟩⟩
theorem kf_below {N : Nat} {W W' : World} (h : Below W.heap.size W W') : KeepsFrom N W W' := ⟨h.size, fun k o _ hk _ => (h.block k (Array.getElem?_eq_some_iff.1 hk).1).trans hk⟩
theorem kf_only {N : Nat} {S : Nat → Prop} {W W' : World} (h : Only S W W') (hS : ∀ k, N ≤ k → ¬ S k) : KeepsFrom N W W' := ⟨h.size, fun k o hN hk _ => (h.block k (Array.getElem?_eq_some_iff.1 hk).1 (hS k hN)).trans hk⟩
set_option maxHeartbeats 4000000 in
set_option maxRecDepth 100000 in
theorem undo_any (da la : Option Addr) (ds : List DM.Chg) (xs : List (List UInt8)) (dc lc : Nat) (w : World) (hd : ds.length ≤ 10) (hds : ∀ i (h : i < ds.length), ds[i].old.length ≤ 9000 ∧ ds[i].new.length ≤ 9000) (hn : xs.length ≤ 20) (hx : Lens 9000 xs)
    (h1 : ChAt (fun _ => True) w da ds) (h2 : TxAt (fun _ => True) false w la xs) :
    Calls Tryz.prog 12 #[.slice da ds.length dc, .slice la xs.length lc] w (Applied (DM.undo ds xs) w) := by
  obtain ⟨oa, na, oc, nc, hcs, hcv⟩ := h1.cells hds
  have hb0 : Below w.heap.size w ((w.alloc (.cells #[.slice none 0 0] 40)).alloc (.cells #[.bool false] 4)) := bl_alloc (bl_alloc (Below.refl _ _) _) _
  have bA := (Blk.new w 40 [.slice none 0 0]).alloc (.cells #[.bool false] 4)
  have bB := Blk.new (w.alloc (.cells #[.slice none 0 0] 40)) 4 [.bool false]
  rw [World.size_alloc] at bB
  obtain ⟨W0, hW0⟩ : ∃ W0, (w.alloc (.cells #[.slice none 0 0] 40)).alloc (.cells #[.bool false] 4) = W0 := ⟨_, rfl⟩
  have sz0 : W0.heap.size = w.heap.size + 2 := by rw [← hW0]; simp
  have hcp := Lib.hid (copied_any la xs lc W0 (by omega) (fun j hj => by have := hx j hj; omega) (h2.below (hW0 ▸ hb0)))
  have bA : Blk W0 w.heap.size 40 [.slice none 0 0] := hW0 ▸ bA
  have bB : Blk W0 (w.heap.size + 1) 4 [.bool false] := hW0 ▸ bB
  have hb0 : Below w.heap.size w W0 := hW0 ▸ hb0
  replace hW0 := Lib.hid hW0
  replace sz0 := Lib.hid sz0
  replace hcs := Lib.hid hcs
  replace hcv := Lib.hid hcv
  replace hds := Lib.hid hds
  replace hx := Lib.hid hx
  clear h1 h2
  refine (callsIn_wide (n := 4)).1 ?_
  refine callsIn_of_wp_marks Tryz.func12 rfl trivial ?_ rfl
  simp only [Tryz.ntmps12, List.size_toArray, List.length_cons, List.length_nil, Nat.reduceAdd, Nat.reduceSub, Array.replicate_succ, Array.replicate_zero, List.push_toArray, List.append_toArray, List.nil_append, List.cons_append]
  refine wpIn_wide.2 ?_
  go_wp2_with fail
  rw [hW0.out]
  refine hcp.out.mono ?_
  rintro e w1 ⟨a1, c1, rfl, ho1, hb1⟩
  go_wp2_with (go_at_call 30; refine (backward_any _ _ _ _).mono ?_; rintro e w' ⟨rfl, rfl⟩)
  have sz1 : w.heap.size + 2 ≤ w1.heap.size := by have := hb1.size; have := sz0.out; omega
  have hga : ∀ q, a1 = some ⟨q, 0, none⟩ → 0 < xs.length → w.heap.size + 2 ≤ q ∧ q < w1.heap.size := fun q e h => by
    obtain ⟨g, e2, hg, hl, _⟩ := ho1 h
    rw [e2] at e; injection e with e; injection e with e; have := sz0.out; omega
  have b2 := (Blk.new w1 40 [.slice a1 xs.length c1]).alloc (.cells #[.slice da ds.length dc] 38)
  have b3 := Blk.new (w1.alloc (.cells #[.slice a1 xs.length c1] 40)) 38 [.slice da ds.length dc]
  rw [World.size_alloc] at b3
  have hb3 : Below w1.heap.size w1 ((w1.alloc (.cells #[.slice a1 xs.length c1] 40)).alloc (.cells #[.slice da ds.length dc] 38)) := bl_alloc (bl_alloc (Below.refl _ _) _) _
  have sz3 : ((w1.alloc (.cells #[.slice a1 xs.length c1] 40)).alloc (.cells #[.slice da ds.length dc] 38)).heap.size = w1.heap.size + 2 := by simp
  obtain ⟨W3, hW3⟩ : ∃ W3, (w1.alloc (.cells #[.slice a1 xs.length c1] 40)).alloc (.cells #[.slice da ds.length dc] 38) = W3 := ⟨_, rfl⟩
  rw [hW3] at b2 b3 hb3 sz3 ⊢
  have ho3 := ho1.below hb3
  have bA3 := (bA.below hb1).below hb3
  have bB3 := (bB.below hb1).below hb3
  have hw3 : Below w.heap.size w W3 := bl_trans (bl_trans hb0 hb1) hb3
  have hcs3 : 0 < ds.length → ∃ b off, da = some ⟨b, off, none⟩ ∧ b < W3.heap.size ∧ ¬ (w.heap.size + 2 ≤ b ∧ b ≠ w1.heap.size ∧ b ≠ w1.heap.size + 1) ∧ chCells W3 b off ds.length (fun j => (.int .i64 (gd ds j).field, .int .i64 (gd ds j).pos, .slice (oa j) (gd ds j).old.length (oc j), .slice (na j) (gd ds j).new.length (nc j))) := fun h0 => by
    obtain ⟨b, off, e, _, hbl, hcc⟩ := hcs.out h0
    exact ⟨b, off, e, Nat.lt_of_lt_of_le hbl hw3.size, by omega, fun j hj => let ⟨c1, c2, c3, c4⟩ := hcc j hj; ⟨(hw3.cell (p := ⟨b, _, none⟩) hbl).trans c1, (hw3.cell (p := ⟨b, _, none⟩) hbl).trans c2, (hw3.cell (p := ⟨b, _, none⟩) hbl).trans c3, (hw3.cell (p := ⟨b, _, none⟩) hbl).trans c4⟩⟩
  have c3 := b3.cell 0
  clear hW3 hcp ho1 b3
  refine (wpIn_wide (n := 4)).1 ?_
  refine wpIn_rangeFunc_ownH rfl (show 1 ≤ 4 by omega) (gf := 59) (lb := #[.pointer (some ⟨w1.heap.size + 1, 0, none⟩)]) rfl trivial (enters_of Tryz.func59 (by kernel_rfl) rfl)
    (backStops (w1.heap.size + 1) da ds.length dc (fun k => w.heap.size + 2 ≤ k ∧ k ≠ w1.heap.size ∧ k ≠ w1.heap.size + 1) _ (by omega) W3 (by omega) (fun h => h.2.2 rfl) c3 hcs3) only_kt (only_kb (N := W3.heap.size) (fun k hk => ⟨by omega, by omega, by omega⟩)) (Below.refl _ _) (fun _ => rfl)
    (fun pre W => (∃ ys : List (List UInt8), DM.apply (pre.map (tn ds)) xs = some ys ∧ ys.length = xs.length ∧ Lens (9000 + 9000 * pre.length) ys ∧ OutAt (fun b => W0.heap.size ≤ b) true W a1 ys) ∧ Only (fun k => w.heap.size + 2 ≤ k ∧ k ≠ w1.heap.size ∧ k ≠ w1.heap.size + 1) W3 W)
    (fun c pre W => c = .ret ∧ DM.apply (pre.map (tn ds)) xs = none ∧ Blk W w.heap.size 40 [.slice none 0 0] ∧ Blk W (w.heap.size + 1) 4 [.bool false] ∧ Below w.heap.size w W)
    ?hI ?hIx ?h0 
    (fun x a' W => ∃ Bx, W3.heap.size ≤ Bx ∧ Blk W Bx 59 [.int .i64 (gd ds x).field, .int .i64 (gd ds x).pos, .slice (oa x) (gd ds x).old.length (oc x), .slice (na x) (gd ds x).new.length (nc x)] ∧
      ∃ t7 t13 t14, a' = { tmps := #[.slice da ds.length dc, .slice la xs.length lc, undef, undef, .pointer (some ⟨w.heap.size, 0, none⟩), .pointer (some ⟨w.heap.size + 1, 0, none⟩), .pointer (some ⟨w1.heap.size, 0, none⟩), t7, .pointer (some ⟨Bx, 0, none⟩), .slice la xs.length lc, .slice a1 xs.length c1, .slice da ds.length dc, .func (.func 59) #[] #[.pointer (some ⟨w1.heap.size + 1, 0, none⟩)], t13, t14, undef, undef, undef, undef, undef, undef], defers := [] })
    ?hAx ?assign ?body ?done ?stop
  case hI =>
    refine OwnFrom.and ?_ (ownFrom_only (fun k hk => ⟨by omega, by omega, by omega⟩))
    rintro s A B row ⟨ys, h3, h4, h5, h6⟩ hg hr
    exact ⟨ys, h3, h4, h5, h6.grown hg (fun r e => (hr r e).2)⟩
  case hIx =>
    rintro c s A B row ⟨h1, h2, h3, h4, h5⟩ hg hr
    refine ⟨h1, h2, h3.of_eq (gown hg (fun r e => (hr r e).2) (h3.cell 0)), h4.of_eq (gown hg (fun r e => (hr r e).2) (h4.cell 0)), ?_⟩
    exact ⟨hg.os.trans h5.os, hg.tape.trans h5.tape, hg.output.trans h5.output, Nat.le_trans h5.size hg.size, fun k hk => (hg.block k (Nat.lt_of_lt_of_le hk h5.size) (fun e => by have := (hr _ e.symm).1; omega)).trans (h5.block k hk)⟩
  case h0 => exact ⟨⟨xs, rfl, rfl, hx.out, ho3⟩, Only.refl _ _⟩
  case hAx =>
    rintro x a' _ A B row ⟨Bx, h1, h2, h3⟩ hg hr
    exact ⟨Bx, h1, h2.of_eq (gown hg (fun r e => (hr r e).2) (h2.cell 0)), h3⟩
  case assign =>
    rintro l pre x W K hi hK
    have hi' := Lib.hid hi
    clear hi hcs3
    unfold chV
    gi_wp2
    refine hK _ _ ((KeepsOthers.alloc _ _).from _) (Only.alloc (Only.refl _ _) _) ⟨?_, hi'.out.2.alloc _⟩ ⟨W.heap.size, hi'.out.2.size, Blk.new W _ _, _, _, _, rfl⟩
    obtain ⟨ys, h3, h4, h5, h6⟩ := hi'.out.1
    exact ⟨ys, h3, h4, h5, h6.below (bl_alloc (Below.refl _ _) _)⟩
  case body =>
    rintro l pre x a' W hl ⟨r, hr⟩ ⟨⟨ys, hap, hyl, hyb, hoy⟩, hon⟩ ⟨Bx, hBx, bX, t7, t13, t14, rfl⟩ hlen
    have cv := (hcv.out x).only' (w' := W) rfl (S := fun k => w.heap.size + 2 ≤ k ∧ k ≠ w1.heap.size ∧ k ≠ w1.heap.size + 1) ((Only.of_below hw3).trans hon) (fun b hb h => by omega)
    have k0 := bX.cell 0
    have k1 := bX.cell 1
    have k2 := bX.cell 2
    have k3 := bX.cell 3
    have hOut : Blk W w1.heap.size 40 [.slice a1 xs.length c1] := b2.only hon (fun h => h.2.1 rfl)
    have bAW : Blk W w.heap.size 40 [.slice none 0 0] := bA3.only hon (fun h => by omega)
    have bBW : Blk W (w.heap.size + 1) 4 [.bool false] := bB3.only hon (fun h => by omega)
    have ko := hOut.cell 0
    have hsn := apply_snoc (x := x) hap
    have htu := turned_any (gd ds x).field (gd ds x).pos (oa x) (na x) (gd ds x).old.length (oc x) (gd ds x).new.length (nc x)
    rcases hp : DM.put ys (tn ds x) with _ | zs
    · have hpn := fun (W' : World) (hb : Below W.heap.size W W') => (by
        rw [← hyl]
        exact put_none (fun b => W0.heap.size ≤ b) (tn ds x) (na x) (oa x) a1 (nc x) (oc x) c1 ys W' (by omega) (fun j hj => by have := hyb j hj; omega) (cv.turned.below hb) (hoy.below hb) hp :
        Calls Tryz.prog 23 #[.agg #[.int .i64 (gd ds x).field, .int .i64 (gd ds x).pos, .slice (na x) (gd ds x).new.length (nc x), .slice (oa x) (gd ds x).old.length (oc x)], .slice a1 xs.length c1] W' fun e w' => e = .returned (.bool false) ∧ Below W'.heap.size W' w')
      rw [hp] at hsn
      have kk := Lib.hid (fun (W' : World) (hb : Below W.heap.size W W') => (hb.cell (p := ⟨w1.heap.size, 0, none⟩) hOut.lt).trans ko)
      replace hpn := Lib.hid hpn
      replace htu := Lib.hid htu
      replace hsn := Lib.hid hsn
      replace hap := Lib.hid hap
      replace hyl := Lib.hid hyl
      replace hyb := Lib.hid hyb
      have bAl := bAW.lt
      have bBl := bBW.lt
      have cA := bAW.cell 0
      have cB := bBW.cell 0
      have fA := bAW.free 0
      have fB := bBW.free 0
      clear hp cv hcs3 hoy
      gi_wp2
      gi_region_with (first | (refine ⟨trivial, ?_⟩; gi_at_call 31; refine (CallsIn.inRound l (callsIn_wide.2 (htu.out _))).mono ?_; rintro e w5 ⟨rfl, hb5⟩; have hb5' : Below W.heap.size W w5 := bl_trans (bl_drew (Below.refl _ _)) hb5; have ko5 := kk.out _ hb5') | (refine ⟨trivial, ?_⟩; gi_at_call 23; refine (CallsIn.inRound l (callsIn_wide.2 (hpn.out _ hb5'))).mono ?_; rintro e w6 ⟨rfl, hb6⟩))
      all_goals
        have hb6' : Below W.heap.size W w6 := bl_trans hb5' hb6
        have cA6 := (hb6'.cell (p := ⟨w.heap.size, 0, none⟩) bAl).trans cA
        have cB6 := (hb6'.cell (p := ⟨w.heap.size + 1, 0, none⟩) bBl).trans cB
        have fA6 := (hb6'.frozen (p := ⟨w.heap.size, 0, none⟩) bAl).trans fA
        have fB6 := (hb6'.frozen (p := ⟨w.heap.size + 1, 0, none⟩) bBl).trans fB
        have gA := Lib.hid (bAW.below hb6')
        have gB := Lib.hid (bBW.below hb6')
        have gK := Lib.hid (kf_below (N := W3.heap.size) hb6')
        have gO := Lib.hid ((((Only.of_below hw3).trans hon).trans (Only.of_below hb6')).below (N := w.heap.size) (Nat.le_refl _) (fun k h => by omega))
        gi_wp2
        refine ⟨(gK.out.trans ((KeepsOthers.setCell _ _ _).from _)).trans ((KeepsOthers.setCell _ _ _).from _), rfl, hsn.out, (gA.out.set 0 _).set_other (by simp) _, (gB.out.set_other (by simp) _).set 0 _, (gO.out.setCell (p := ⟨w.heap.size, 0, none⟩) (by simp) _).setCell (p := ⟨w.heap.size + 1, 0, none⟩) (by simp) _⟩
    · have hy0 : 0 < xs.length := by
        rcases Nat.eq_zero_or_pos ys.length with h | h
        · obtain rfl := List.length_eq_zero_iff.1 h
          unfold DM.put at hp
          split at hp
          · rename_i hh; simp at hh; omega
          · cases hp
        · omega
      have hpn := fun (W' : World) (hb : Below W.heap.size W W') => (by
        rw [← hyl]
        exact put_some (fun b => W0.heap.size ≤ b) (tn ds x) (na x) (oa x) a1 (nc x) (oc x) c1 ys zs W' (fun b h => Nat.le_trans hb1.size (Nat.le_trans hb3.size (Nat.le_trans hon.size (Nat.le_trans hb.size h)))) (by omega) (fun j hj => by have := hyb j hj; omega) (cv.turned.below hb) (hoy.below hb) hp :
        Calls Tryz.prog 23 #[.agg #[.int .i64 (gd ds x).field, .int .i64 (gd ds x).pos, .slice (na x) (gd ds x).new.length (nc x), .slice (oa x) (gd ds x).old.length (oc x)], .slice a1 xs.length c1] W' fun e w' => e = .returned (.bool true) ∧ Only (fun k => a1 = some ⟨k, 0, none⟩) W' w' ∧ OutAt (fun b => W0.heap.size ≤ b) true w' a1 zs)
      rw [hp] at hsn
      have hln := Lib.hid (hyb.put hp)
      have cvo := gd_old hds.out x
      have kk := Lib.hid (fun (W' : World) (hb : Below W.heap.size W W') => (hb.cell (p := ⟨w1.heap.size, 0, none⟩) hOut.lt).trans ko)
      replace hpn := Lib.hid hpn
      replace htu := Lib.hid htu
      replace hsn := Lib.hid hsn
      replace hap := Lib.hid hap
      replace hyl := Lib.hid hyl
      replace hyb := Lib.hid hyb
      have hga' : ∀ q, a1 = some ⟨q, 0, none⟩ → w.heap.size + 2 ≤ q ∧ q < w1.heap.size := fun q e => hga q e hy0
      replace hga' := Lib.hid hga'
      clear hp cv hcs3 hoy hga
      gi_wp2
      gi_region_with (first | (refine ⟨trivial, ?_⟩; gi_at_call 31; refine (CallsIn.inRound l (callsIn_wide.2 (htu.out _))).mono ?_; rintro e w5 ⟨rfl, hb5⟩; have hb5' : Below W.heap.size W w5 := bl_trans (bl_drew (Below.refl _ _)) hb5; have ko5 := kk.out _ hb5') | (refine ⟨trivial, ?_⟩; gi_at_call 23; refine (CallsIn.inRound l (callsIn_wide.2 (hpn.out _ hb5'))).mono ?_; rintro e w6 ⟨rfl, ho6, hoz⟩))
      all_goals
        have hoz' := Lib.hid hoz
        have ho6' := Lib.hid (ho6.mono (T := fun k => w.heap.size + 2 ≤ k ∧ k ≠ w1.heap.size ∧ k ≠ w1.heap.size + 1) (fun k e => by have := hga'.out k e; omega))
        have gK := Lib.hid ((kf_below (N := W3.heap.size) hb5').trans (kf_only (N := W3.heap.size) ho6 (fun k hk e => by have := hga'.out k e; omega)))
        clear hoz ho6
        gi_wp2
        refine ⟨gK.out, (Only.of_below hb5').trans ho6'.out, ⟨zs, hsn.out, hln.out.2.trans hyl.out, fun j hj => ?_, hoz'.out⟩, (hon.trans (Only.of_below hb5')).trans ho6'.out⟩
        have := hln.out.1 j hj
        have e2 : (tn ds x).new.length = (gd ds x).old.length := rfl
        rw [e2] at this
        rw [List.length_append, List.length_singleton]
        omega
  case done =>
    rintro D zs W hD rfl ⟨⟨ys, hap, hyl, hyb, hoy⟩, hon⟩ hK
    have hun := (undo_rv ds xs).trans hap
    have ko : W.cell? ⟨w1.heap.size, 0, none⟩ = some (.slice a1 xs.length c1) := (b2.only hon (fun h => h.2.1 rfl)).cell 0
    have bAW : Blk W w.heap.size 40 [.slice none 0 0] := bA3.only hon (fun h => by omega)
    have bBW : Blk W (w.heap.size + 1) 4 [.bool false] := bB3.only hon (fun h => by omega)
    have cA := bAW.cell 0
    have cB := bBW.cell 0
    have fA := bAW.free 0
    have fB := bBW.free 0
    replace hap := Lib.hid hap
    replace hun := Lib.hid hun
    replace hyl := Lib.hid hyl
    replace hoy := Lib.hid hoy
    replace hK := Lib.hid hK
    clear hcs3 hyb
    go_wp2_with fail
    have hK2 : ((W.setCell ⟨w.heap.size, 0, none⟩ (.slice a1 xs.length c1)).setCell ⟨w.heap.size + 1, 0, none⟩ (.bool true)).heap[D]? = some (.deferred (some [])) := by
      rw [Below.heap_setCell _ _ _ _ (show D ≠ w.heap.size + 1 by omega), Below.heap_setCell _ _ _ _ (show D ≠ w.heap.size by omega)]; exact hK.out
    have gA : Blk ((W.setCell ⟨w.heap.size, 0, none⟩ (.slice a1 xs.length c1)).setCell ⟨w.heap.size + 1, 0, none⟩ (.bool true)) w.heap.size 40 [.slice a1 xs.length c1] := (bAW.set 0 _).set_other (by simp) _
    have gB : Blk ((W.setCell ⟨w.heap.size, 0, none⟩ (.slice a1 xs.length c1)).setCell ⟨w.heap.size + 1, 0, none⟩ (.bool true)) (w.heap.size + 1) 4 [.bool true] := (bBW.set_other (by simp) _).set 0 _
    have gO : Below w.heap.size w ((W.setCell ⟨w.heap.size, 0, none⟩ (.slice a1 xs.length c1)).setCell ⟨w.heap.size + 1, 0, none⟩ (.bool true)) := (((((Only.of_below hw3).trans hon).below (N := w.heap.size) (Nat.le_refl _) (fun k h => by omega)).setCell (p := ⟨w.heap.size, 0, none⟩) (by simp) _).setCell (p := ⟨w.heap.size + 1, 0, none⟩) (by simp) _)
    have gT : OutAt (fun b => w.heap.size ≤ b) true ((W.setCell ⟨w.heap.size, 0, none⟩ (.slice a1 xs.length c1)).setCell ⟨w.heap.size + 1, 0, none⟩ (.bool true)) a1 ys := OutAt.mono (K := fun b => W0.heap.size ≤ b) (OutAt.keep (w := W) (w' := (W.setCell ⟨w.heap.size, 0, none⟩ (.slice a1 xs.length c1)).setCell ⟨w.heap.size + 1, 0, none⟩ (.bool true)) hoy.out (by simp [World.setCell]) (fun b hb _ => by
      have := sz0.out
      rw [Below.heap_setCell _ _ _ _ (show b ≠ w.heap.size + 1 by omega), Below.heap_setCell _ _ _ _ (show b ≠ w.heap.size by omega)])) (fun b hb => by have := sz0.out; omega)
    obtain ⟨W5, hW5⟩ : ∃ W5, (W.setCell ⟨w.heap.size, 0, none⟩ (.slice a1 xs.length c1)).setCell ⟨w.heap.size + 1, 0, none⟩ (.bool true) = W5 := ⟨_, rfl⟩
    rw [hW5] at hK2 gA gB gO gT ⊢
    clear hW5 cA cB fA fB ko bAW bBW
    have gA6 : Blk (W5.putObj D (.deferred none)) w.heap.size 40 [.slice a1 xs.length c1] := gA.of_eq (World.putObj_heap_other (by omega))
    have gB6 : Blk (W5.putObj D (.deferred none)) (w.heap.size + 1) 4 [.bool true] := gB.of_eq (World.putObj_heap_other (by omega))
    have gO6 : Below w.heap.size w (W5.putObj D (.deferred none)) := belowK_t gO (belowK_b (w := w) (Nat.le_refl _) W5 D _ _ (by omega) hK2 rfl rfl)
    have gT6 : OutAt (fun b => w.heap.size ≤ b) true (W5.putObj D (.deferred none)) a1 ys := gT.grown (grownBy_putObj' W5 D _) (fun r e => by cases e; exact ⟨_, hK2, rfl⟩)
    refine ⟨by simp, .inl ⟨_, _, rfl, run_takeDeferred hK2, ?_⟩⟩
    have cA := gA6.cell 0
    have cB := gB6.cell 0
    clear hap hK2
    generalize W5.putObj D (.deferred none) = W6 at *
    refine ⟨.tuple #[.slice a1 xs.length c1, .bool true], by simp [results, Tryz.results12, go_sem, cA, cB], ?_⟩
    exact Applied.yes hun.out hyl.out.symm rfl gT6 gO6
  case stop =>
    rintro D c pre W hD ⟨k, hk, rfl⟩ ⟨rfl, hap, bAW, bBW, hbel⟩ hK
    have hun := undo_none hk hap
    replace hap := Lib.hid hap
    replace hun := Lib.hid hun
    have gA6 : Blk (W.putObj D (.deferred none)) w.heap.size 40 [.slice none 0 0] := bAW.of_eq (World.putObj_heap_other (by omega))
    have gB6 : Blk (W.putObj D (.deferred none)) (w.heap.size + 1) 4 [.bool false] := bBW.of_eq (World.putObj_heap_other (by omega))
    have gO6 : Below w.heap.size w (W.putObj D (.deferred none)) := belowK_t hbel (belowK_b (w := w) (Nat.le_refl _) W D _ _ (by omega) hK rfl rfl)
    replace hK := Lib.hid hK
    clear hcs3
    gi_wp2
    refine ⟨by simp, .inl ⟨_, _, rfl, run_takeDeferred hK.out, ?_⟩⟩
    have cA := gA6.cell 0
    have cB := gB6.cell 0
    clear hap hK
    generalize W.putObj D (.deferred none) = W6 at *
    refine ⟨.tuple #[.slice none 0 0, .bool false], by simp [results, Tryz.results12, go_sem, cA, cB], ?_⟩
    exact Applied.no hun.out rfl gO6
end Go.Proofs.YtepdfkgadigafaaGreatDoor
