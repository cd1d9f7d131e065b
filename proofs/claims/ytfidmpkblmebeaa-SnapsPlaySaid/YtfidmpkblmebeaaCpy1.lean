/-
  Copies of a state's rows, as contracts over the rows; the box's cells; of chapter 20. (Printed by gen_cpy1.py.)
  Conditions: as each theorem states them.
-/
import Derived.Test.YtfidmpkblmebeaaCpy0
namespace Go.Proofs.Ytfidmpkblmebeaa
open Go.RowKit
set_option linter.unusedVariables false
set_option linter.unusedSimpArgs false
theorem clone_tx (w : World) {lo hi : Nat} {a : Option Addr} {n c : Nat} {t : List UInt8} (h : TxI lo hi w ⟨a, n, c⟩ t) (hs : t.length ≤ 1000000000000) :
    Calls Try.prog 29 #[.slice a n c] w fun e w' => ∃ a' n' c', e = .returned (.slice a' n' c') ∧ TxI w.heap.size w'.heap.size w' ⟨a', n', c'⟩ t ∧ Below w.heap.size w w' := by
  refine (clone_bytes w a n c _ (src_tx h hs)).mono ?_
  rintro e w' ⟨v, rfl, ho, hb⟩
  have hn : n = t.length := h.1
  rw [hn] at ho
  obtain ⟨⟨a', n', c'⟩, rfl, hx⟩ := tx_own ho hs
  exact ⟨a', n', c', rfl, hx, hb⟩
theorem rcopy_tx (w : World) {lo hi : Nat} {a : Option Addr} {n c : Nat} {t : List UInt8} (h : TxI lo hi w ⟨a, n, c⟩ t) (hs : t.length ≤ 1000000000000) :
    Calls Try.prog 17 #[.slice a n c] w fun e w' => ∃ a' n' c', e = .returned (.slice a' n' c') ∧ TxI w.heap.size w'.heap.size w' ⟨a', n', c'⟩ t ∧ Below w.heap.size w w' := by
  refine (rcopy_bytes w a n c _ (src_tx h hs)).mono ?_
  rintro e w' ⟨v, rfl, ho, hb⟩
  have hn : n = t.length := h.1
  rw [hn] at ho
  obtain ⟨⟨a', n', c'⟩, rfl, hx⟩ := tx_own ho hs
  exact ⟨a', n', c', rfl, hx, hb⟩
theorem clone_bl (w : World) {lo hi : Nat} {a : Option Addr} {n c : Nat} {t : List Bool} (h : BlI lo hi w ⟨a, n, c⟩ t) (hs : t.length ≤ 1000000000000) :
    Calls Try.prog 30 #[.slice a n c] w fun e w' => ∃ a' n' c', e = .returned (.slice a' n' c') ∧ BlI w.heap.size w'.heap.size w' ⟨a', n', c'⟩ t ∧ Below w.heap.size w w' := by
  refine (clone_bools w a n c _ (src_bl h hs)).mono ?_
  rintro e w' ⟨v, rfl, ho, hb⟩
  have hn : n = t.length := h.1
  rw [hn] at ho
  obtain ⟨⟨a', n', c'⟩, rfl, hx⟩ := bl_own ho hs
  exact ⟨a', n', c', rfl, hx, hb⟩
theorem strs_one' (x : List UInt8) : (strV x).oneCell' = true := rfl
theorem kinds_one (x : Int) : (kindV x).oneCell' = true := rfl

theorem clone_pr_waits (w : World) {lo hi : Nat} {a : Option Addr} {n c : Nat} {t : List (Int × List UInt8)} (h : PrI kindV lo hi w ⟨a, n, c⟩ t) (hW : hi ≤ w.heap.size) (hs : t.length ≤ 1000000000000) :
    Calls Try.prog 31 #[.slice a n c] w fun e w' => ∃ a' c', e = .returned (.slice a' t.length c') ∧ PrL kindV t 63 w.heap.size w'.heap.size lo hi (.slice a' t.length c') 0 w' ∧ Below w.heap.size w w' := by
  have h' := h
  obtain ⟨h1, h2, h3, ss, h4, h5, h6⟩ := h
  have hn : n = t.length := h1
  refine (clone_waits w a n c _ (src_pr (s := ⟨a, n, c⟩) kinds_one h1 hs h4 h5)).mono ?_
  rintro e w' ⟨v, rfl, ho, hb⟩
  rw [hn] at ho
  obtain ⟨⟨a', n', c'⟩, rfl, hx, _⟩ := cells_own ho
  have hx : n' = t.length := hx
  subst hx
  exact ⟨a', c', rfl, ⟨Nat.le_refl _, hb.size, hW, ss, h4, ho, fun k hk => (ho.lt k hk).2, fun i a b c => by omega, fun i a b => (fun _ => (h6 i a b).keep (KeepI.below hb hW))⟩, hb⟩

theorem clone_pr_files (w : World) {lo hi : Nat} {a : Option Addr} {n c : Nat} {t : List (List UInt8 × List UInt8)} (h : PrI strV lo hi w ⟨a, n, c⟩ t) (hW : hi ≤ w.heap.size) (hs : t.length ≤ 1000000000000) :
    Calls Try.prog 42 #[.slice a n c] w fun e w' => ∃ a' c', e = .returned (.slice a' t.length c') ∧ PrL strV t 65 w.heap.size w'.heap.size lo hi (.slice a' t.length c') 0 w' ∧ Below w.heap.size w w' := by
  have h' := h
  obtain ⟨h1, h2, h3, ss, h4, h5, h6⟩ := h
  have hn : n = t.length := h1
  refine (clone_files w a n c _ (src_pr (s := ⟨a, n, c⟩) strs_one' h1 hs h4 h5)).mono ?_
  rintro e w' ⟨v, rfl, ho, hb⟩
  rw [hn] at ho
  obtain ⟨⟨a', n', c'⟩, rfl, hx, _⟩ := cells_own ho
  have hx : n' = t.length := hx
  subst hx
  exact ⟨a', c', rfl, ⟨Nat.le_refl _, hb.size, hW, ss, h4, ho, fun k hk => (ho.lt k hk).2, fun i a b c => by omega, fun i a b => (fun _ => (h6 i a b).keep (KeepI.below hb hW))⟩, hb⟩

theorem PrL.at' {α : Type} {f : α → Value} {l : List (α × List UInt8)} {E base n lo hi m L c : Nat} {a : Option Addr} {X : World} (h : PrL f l E base n lo hi (.slice a L c) m X) (hm : m < l.length) :
    ∃ (g : Nat) (s : Sl3), a = some ⟨g, 0, none⟩ ∧ base ≤ g ∧ g < n ∧ X.cell? ⟨g, m * 2 + 1, none⟩ = some (.slice s.a s.n s.c) ∧ X.frozen? ⟨g, m * 2 + 1, none⟩ = false ∧ TxI lo hi X s (l[m]).2 := by
  obtain ⟨g, cap, s, e, h1, h2, h3, h4, h5⟩ := h.at hm
  cases e
  exact ⟨g, s, rfl, h1, h2, h3, h4, h5⟩
theorem PrL.put' {α : Type} {f : α → Value} {l : List (α × List UInt8)} {E base n lo hi m L c g : Nat} {X Y : World} {s : Sl3} (hL : l.length = L) (h : PrL f l E base n lo hi (.slice (some ⟨g, 0, none⟩) L c) m X) (hm : m < l.length) (hb : Below X.heap.size X Y) (hs : TxI X.heap.size Y.heap.size Y s (l[m]).2) :
    PrL f l E base n lo hi (.slice (some ⟨g, 0, none⟩) L c) (m + 1) (Y.setCell ⟨g, m * 2 + 1, none⟩ s.v) := by
  subst hL
  exact h.put hm hb hs
theorem PrL.done' {α : Type} {f : α → Value} {l : List (α × List UInt8)} {E base n lo hi L c : Nat} {a : Option Addr} {X : World} (hL : l.length = L) (h : PrL f l E base n lo hi (.slice a L c) L X) (hs : l.length ≤ 1000000000000) : PrI f base X.heap.size X ⟨a, L, c⟩ l := by
  subst hL
  obtain ⟨⟨a', n', c'⟩, e, hx⟩ := h.done hs
  cases e
  exact hx

section
variable {w : World} {lo hi : Nat} {V : StV} {dpat dhold drest dout dplace dactive dlacks : Bool} {dwaits dfiles : Option Bool} {T : Nat} {cur : StC} {X : World}
theorem CF.ld_pat (h : CF w lo hi V dpat dhold drest dout dplace dactive dlacks dwaits dfiles T cur X) : ∃ a n c, X.cell? ⟨w.heap.size, 0, none⟩ = some (.slice a n c) ∧ X.frozen? ⟨w.heap.size, 0, none⟩ = false ∧ TxD dpat (w.heap.size + 2) T lo hi X ⟨a, n, c⟩ V.pat :=
  ⟨cur.pat.a, cur.pat.n, cur.pat.c, by rw [h.b0.cell]; rfl, h.b0.free _, h.pat⟩
theorem CF.ld_hold (h : CF w lo hi V dpat dhold drest dout dplace dactive dlacks dwaits dfiles T cur X) : ∃ a n c, X.cell? ⟨w.heap.size, 1, none⟩ = some (.slice a n c) ∧ X.frozen? ⟨w.heap.size, 1, none⟩ = false ∧ TxD dhold (w.heap.size + 2) T lo hi X ⟨a, n, c⟩ V.hold :=
  ⟨cur.hold.a, cur.hold.n, cur.hold.c, by rw [h.b0.cell]; rfl, h.b0.free _, h.hold⟩
theorem CF.ld_rest (h : CF w lo hi V dpat dhold drest dout dplace dactive dlacks dwaits dfiles T cur X) : ∃ a n c, X.cell? ⟨w.heap.size, 10, none⟩ = some (.slice a n c) ∧ X.frozen? ⟨w.heap.size, 10, none⟩ = false ∧ TxD drest (w.heap.size + 2) T lo hi X ⟨a, n, c⟩ V.rest :=
  ⟨cur.rest.a, cur.rest.n, cur.rest.c, by rw [h.b0.cell]; rfl, h.b0.free _, h.rest⟩
theorem CF.ld_out (h : CF w lo hi V dpat dhold drest dout dplace dactive dlacks dwaits dfiles T cur X) : ∃ a n c, X.cell? ⟨w.heap.size, 11, none⟩ = some (.slice a n c) ∧ X.frozen? ⟨w.heap.size, 11, none⟩ = false ∧ TxD dout (w.heap.size + 2) T lo hi X ⟨a, n, c⟩ V.out :=
  ⟨cur.out.a, cur.out.n, cur.out.c, by rw [h.b0.cell]; rfl, h.b0.free _, h.out⟩
theorem CF.ld_place (h : CF w lo hi V dpat dhold drest dout dplace dactive dlacks dwaits dfiles T cur X) : ∃ a n c, X.cell? ⟨w.heap.size, 13, none⟩ = some (.slice a n c) ∧ X.frozen? ⟨w.heap.size, 13, none⟩ = false ∧ TxD dplace (w.heap.size + 2) T lo hi X ⟨a, n, c⟩ V.place :=
  ⟨cur.place.a, cur.place.n, cur.place.c, by rw [h.b0.cell]; rfl, h.b0.free _, h.place⟩
theorem CF.ld_active (h : CF w lo hi V dpat dhold drest dout dplace dactive dlacks dwaits dfiles T cur X) : ∃ a n c, X.cell? ⟨w.heap.size, 23, none⟩ = some (.slice a n c) ∧ X.frozen? ⟨w.heap.size, 23, none⟩ = false ∧ BlD dactive (w.heap.size + 2) T lo hi X ⟨a, n, c⟩ V.active :=
  ⟨cur.active.a, cur.active.n, cur.active.c, by rw [h.b0.cell]; rfl, h.b0.free _, h.active⟩
theorem CF.ld_lacks (h : CF w lo hi V dpat dhold drest dout dplace dactive dlacks dwaits dfiles T cur X) : ∃ a n c, X.cell? ⟨w.heap.size, 26, none⟩ = some (.slice a n c) ∧ X.frozen? ⟨w.heap.size, 26, none⟩ = false ∧ BlD dlacks (w.heap.size + 2) T lo hi X ⟨a, n, c⟩ V.lacks :=
  ⟨cur.lacks.a, cur.lacks.n, cur.lacks.c, by rw [h.b0.cell]; rfl, h.b0.free _, h.lacks⟩
theorem CF.ld_waits (h : CF w lo hi V dpat dhold drest dout dplace dactive dlacks dwaits dfiles T cur X) : ∃ a n c, X.cell? ⟨w.heap.size, 24, none⟩ = some (.slice a n c) ∧ X.frozen? ⟨w.heap.size, 24, none⟩ = false ∧ PrD kindV dwaits (w.heap.size + 2) T lo hi X ⟨a, n, c⟩ V.waits :=
  ⟨cur.waits.a, cur.waits.n, cur.waits.c, by rw [h.b0.cell]; rfl, h.b0.free _, h.waits⟩
theorem CF.ld_files (h : CF w lo hi V dpat dhold drest dout dplace dactive dlacks dwaits dfiles T cur X) : ∃ a n c, X.cell? ⟨w.heap.size, 25, none⟩ = some (.slice a n c) ∧ X.frozen? ⟨w.heap.size, 25, none⟩ = false ∧ PrD strV dfiles (w.heap.size + 2) T lo hi X ⟨a, n, c⟩ V.files :=
  ⟨cur.files.a, cur.files.n, cur.files.c, by rw [h.b0.cell]; rfl, h.b0.free _, h.files⟩
end
end Go.Proofs.Ytfidmpkblmebeaa
