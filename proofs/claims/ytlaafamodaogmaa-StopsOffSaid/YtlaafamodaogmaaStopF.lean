/-
  The search for a breakpoint; of chapter 28.
  Conditions: as each theorem states them.
-/
import Derived.Test.YtlaafamodaogmaaStopP
import Derived.Deep.LoopGhost
namespace Go.Proofs.Ytlaafamodaogmaa
open Go.RowKit
set_option linter.unusedVariables false
set_option linter.unusedSimpArgs false
/-- a function that asks for a number -/
def AskC (k : FuncId) : Prop := ∀ (x : Stp) (id : Int) (b : Nat) (W : World), W.cell? ⟨b, 0, none⟩ = some (.int .i64 id) → b < W.heap.size →
  Calls Try.prog k #[.agg x.cells.toArray, .pointer (some ⟨b, 0, none⟩)] W fun e w' => e = .returned (.bool (x.id == id)) ∧ Below W.heap.size W w'
theorem ask_find : AskC 64 := by
  intro x id b W hc hb
  unfold Stp.cells
  go_enter Try.func64, Try.ntmps64
  go_wp2_with fail
  go_ret
  exact ⟨rfl, bl_alloc (Below.refl _ _) _⟩
theorem ask_delete : AskC 44 := by
  intro x id b W hc hb
  unfold Stp.cells
  go_enter Try.func44, Try.ntmps44
  go_wp2_with fail
  go_ret
  exact ⟨rfl, bl_alloc (Below.refl _ _) _⟩
/-- the place of a number -/
def findP (id : Int) (l : List Stp) : Int := match l.findIdx? (fun x => x.id == id) with
  | some i => (i : Int)
  | none => -1
theorem findP_none {id : Int} {l : List Stp} (h : ∀ j (hj : j < l.length), (l[j].id == id) = false) : findP id l = -1 := by
  unfold findP
  rw [List.findIdx?_eq_none_iff.2 (fun x hx => by
    obtain ⟨j, hj, rfl⟩ := List.getElem_of_mem hx
    exact h j hj)]
theorem findP_some {id : Int} {l : List Stp} {k : Nat} (hk : k < l.length) (h : (l[k].id == id) = true) (hn : ∀ j (hj : j < k), (l[j].id == id) = false) : findP id l = (k : Int) := by
  unfold findP
  rw [List.findIdx?_eq_some_iff_getElem.2 ⟨hk, h, fun j hj => by rw [hn j hj]; simp⟩]
set_option maxHeartbeats 4000000 in
set_option maxRecDepth 100000 in
theorem index_any {k : FuncId} (hE : Ent k) (hA : AskC k) {N : Nat} {W : World} {v : Value} {l : List Stp} (h : W.ownsRow N 103 6 v l.length (stpsC l)) (hl : l.length ≤ 1000000) {id : Int} {b : Nat} (hc : W.cell? ⟨b, 0, none⟩ = some (.int .i64 id)) (hb : b < W.heap.size) :
    Calls Try.prog 63 #[v, .func (.func k) #[] #[.pointer (some ⟨b, 0, none⟩)]] W fun e w' => e = .returned (.int .i64 (findP id l)) ∧ Below W.heap.size W w' := by
  unfold Ent at hE
  rcases row_elem h with ⟨rfl, rfl⟩ | ⟨g, cap, rfl, hN, hg, hcap, hm, hel⟩
  · clear h hA hc hb hl
    go_enter Try.func63, Try.ntmps63
    go_wp2_with fail
    go_loopg [8] 0 (fun gh v wr => v = .int .i64 0 ∧ W = wr)
    case atStart => exact ⟨rfl, rfl⟩
    case round =>
      obtain ⟨rfl, rfl⟩ := hrel
      go_wp2_with fail
      go_ret
      exact ⟨rfl, Below.refl _ _⟩
  · have hcl := Lib.hid (fun (x : Stp) wr (hw : Below W.heap.size W wr) => (hA x id b wr ((hw.cell (p := ⟨b, 0, none⟩) hb).trans hc) (Nat.lt_of_lt_of_le hb hw.size)).mono (R' := fun e w2 => e = .returned (.bool (x.id == id)) ∧ Below W.heap.size W w2) (fun e w2 he => ⟨he.1, bl_trans hw he.2⟩))
    replace hel := Lib.hid hel
    clear h hA hc hb
    go_enter Try.func63, Try.ntmps63
    go_wp2_with fail
    go_loopg [8] l.length (fun gh v wr => ∃ i : Nat, gh = l.length - i ∧ v = .int .i64 (i : Int) ∧ i ≤ l.length ∧ Hid (∀ j (hj : j < l.length), j < i → (l[j].id == id) = false) ∧ Hid (Below W.heap.size W wr))
    case atStart => exact ⟨0, by omega, rfl, Nat.zero_le _, Lib.hid (fun j _ h => absurd h (Nat.not_lt_zero _)), Lib.hid (Below.refl _ _)⟩
    case round =>
      obtain ⟨i, rfl, rfl, hi, hn, hbr⟩ := hrel
      by_cases hlt : i < l.length
      · have hx := (hel.out i hlt).1
        have k0 : ∀ j u, (l[i]).cells[j]? = some u → wr.cell? ⟨g, i * 6 + j, none⟩ = some u := fun j u hu => (hbr.out.cell (p := ⟨g, i * 6 + j, none⟩) hg).trans (hx j u hu)
        have c0 : wr.cell? ⟨g, i * 6, none⟩ = some (.int .i64 (l[i]).id) := by have := k0 0 _ rfl; rwa [Nat.add_zero] at this
        have c1 := k0 1 _ rfl
        have c2 := k0 2 _ rfl
        have c3 := k0 3 _ rfl
        have c4 := k0 4 _ rfl
        have c5 := k0 5 _ rfl
        have hg2 : g < wr.heap.size := Nat.lt_of_lt_of_le hg hbr.out.size
        have hcx := hcl.out l[i] wr hbr.out
        unfold Stp.cells at hcx
        clear hx k0
        obtain ⟨x, hxe⟩ : ∃ x, l[i] = x := ⟨_, rfl⟩
        rw [hxe] at c0 c1 c2 c3 c4 c5 hcx
        replace hcx := Lib.hid hcx
        replace hxe := Lib.hid hxe
        obtain ⟨B, hB⟩ : ∃ B, (x.id == id) = B := ⟨_, rfl⟩
        rw [hB] at hcx
        replace hB := Lib.hid hB
        replace hbr := Lib.hid hbr
        have z0 : (0 : Int) ≤ (i : Int) := by omega
        have z1 : (i : Int) < (l.length : Int) := by omega
        cases B
        · go_wp2_with ((with_reducible refine hcx.out.mono ?_); rintro e w2 ⟨rfl, hb2⟩)
          go_roundg (l.length - (i + 1))
          case measure => omega
          case rel => exact ⟨i + 1, rfl, by go_num, by omega, Lib.hid (fun j hj h => by by_cases e : j = i; (subst e; rw [hxe.out]; exact hB.out); exact hn.out j hj (by omega)), Lib.hid hb2⟩
        · have hf := Lib.hid (findP_some hlt (by rw [hxe.out]; exact hB.out) (fun j hj => hn.out j (by omega) hj))
          go_wp2_with ((with_reducible refine hcx.out.mono ?_); rintro e w2 ⟨rfl, hb2⟩)
          go_ret
          exact ⟨by rw [hf.out]; rfl, hb2⟩
      · obtain rfl : i = l.length := by omega
        have hf := Lib.hid (findP_none (id := id) (fun j hj => hn.out j hj hj))
        replace hbr := Lib.hid hbr
        go_wp2_with fail
        go_ret
        exact ⟨by rw [hf.out]; rfl, hbr.out.out⟩
end Go.Proofs.Ytlaafamodaogmaa
