/-
  Stops.Get, All; of chapter 28.
  Conditions: as each theorem states them.
-/
import Derived.Test.YtcjcflmnghhbaaaGreatStopFt
namespace Go.Proofs.YtcjcflmnghhbaaaGreat
open Go.RowKit
set_option linter.unusedVariables false
set_option linter.unusedSimpArgs false
/-- what is told of a breakpoint -/
def Stp.brk (x : Stp) : List Value := [.int .i64 x.id, .int .i64 x.kind, .int .i64 x.n, strV x.cond, .bool x.off]
def brksC (l : List Stp) : List Value := l.flatMap Stp.brk
def noBrk : List Value := [.int .i64 0, .int .i64 0, .int .i64 0, .string ⟨#[]⟩, .bool false]
theorem get_nil (id : Int) (W : World) : Calls Tryz.prog 18 #[.pointer none, .int .i64 id] W fun e w' => e = .returned (.tuple #[.agg noBrk.toArray, .bool false]) ∧ Below W.heap.size W w' := by
  go_enter Tryz.func18, Tryz.ntmps18
  go_wp2_with fail
  exact bodyPost_ret (v := .tuple #[.agg #[.int .i64 0, .int .i64 0, .int .i64 0, .string ⟨#[]⟩, .bool false], .bool false]) (by simp [results, Tryz.results18, go_sem]) rfl ⟨rfl, bl_alloc (Below.refl _ _) _⟩
/-- what Get answers -/
def getS (id : Int) (l : List Stp) : List Value × Bool := match l.find? (fun x => x.id == id) with
  | some x => (x.brk, true)
  | none => (noBrk, false)
theorem all_nil (W : World) : Calls Tryz.prog 14 #[.pointer none] W fun e w' => e = .returned (.slice none 0 0) ∧ W = w' := by
  go_enter Tryz.func14, Tryz.ntmps14
  go_wp2_with fail
  go_ret
  exact ⟨rfl, rfl⟩
theorem infoBrk : (Tryz.prog.info? 60).map (fun i => (i.zero, i.size, i.bytes)) = some (some (.agg #[.int .i64 0, .int .i64 0, .int .i64 0, .string ⟨#[]⟩, .bool false]), 5, 48) := by kernel_rfl
theorem brk_one (x : Stp) : ∀ u ∈ x.brk, u.oneCell' = true := by
  intro u hu
  simp only [Stp.brk, List.mem_cons, List.not_mem_nil, or_false] at hu
  rcases hu with rfl | rfl | rfl | rfl | rfl <;> rfl
theorem brks_snoc {l : List Stp} {i : Nat} (h : i < l.length) : brksC (l.take (i + 1)) = brksC (l.take i) ++ (l[i]).brk := by
  unfold brksC
  rw [List.take_succ_eq_append_getElem h, List.flatMap_append]; simp
set_option maxHeartbeats 4000000 in
set_option maxRecDepth 100000 in
theorem all_any {N : Nat} {W : World} {p : Nat} {l : List Stp} {last : Int} (h : StopsAt N W p l last) (hl : l.length ≤ 1000000) :
    Calls Tryz.prog 14 #[.pointer (some ⟨p, 0, none⟩)] W fun e w' => ∃ v, e = .returned v ∧ w'.ownsRow W.heap.size 60 5 v l.length (brksC l) ∧ Below W.heap.size W w' := by
  obtain ⟨i0, hi0, hz0, hz1, hz2⟩ := info_parts infoBrk
  obtain ⟨v, hR⟩ := h
  have k0 : W.cell? ⟨p, 0, none⟩ = some v := hR.blk.cell 0
  have hp := hR.blk.lt
  rcases row_elem hR.row with ⟨rfl, rfl⟩ | ⟨g, cap, rfl, hN, hg, hcap, hm, hel⟩
  · clear hR
    go_enter Tryz.func14, Tryz.ntmps14
    go_wp2_with fail
    go_loopg [3, 13] 0 (fun gh o v wr => o = .slice none 0 0 ∧ v = .int .i64 0 ∧ W = wr)
    case atStart => exact ⟨rfl, rfl, rfl⟩
    case round =>
      obtain ⟨rfl, rfl, rfl⟩ := hrel
      go_wp2_with fail
      go_ret
      exact ⟨_, rfl, World.ownsRow_nil _ _ _ _, Below.refl _ _⟩
  · replace hel := Lib.hid hel
    clear hR
    go_enter Tryz.func14, Tryz.ntmps14
    go_wp2_with fail
    go_loopg [3, 13] l.length (fun gh o v wr => ∃ i : Nat, gh = l.length - i ∧ v = .int .i64 (i : Int) ∧ i ≤ l.length ∧ Hid (wr.ownsRow W.heap.size 60 5 o i (brksC (l.take i))) ∧ Hid (Below W.heap.size W wr))
    case atStart => exact ⟨0, by omega, rfl, Nat.zero_le _, Lib.hid (World.ownsRow_nil _ _ _ _), Lib.hid (Below.refl _ _)⟩
    case round =>
      obtain ⟨i, rfl, rfl, hi, ho, hbr⟩ := hrel
      by_cases hlt : i < l.length
      · have hx := (hel.out i hlt).1
        have k0 : ∀ j u, (l[i]).cells[j]? = some u → wr.cell? ⟨g, i * 6 + j, none⟩ = some u := fun j u hu => (hbr.out.cell (p := ⟨g, i * 6 + j, none⟩) hg).trans (hx j u hu)
        have c0 : wr.cell? ⟨g, i * 6, none⟩ = some (.int .i64 (l[i]).id) := by have := k0 0 _ rfl; rwa [Nat.add_zero] at this
        have c1 := k0 1 _ rfl
        have c2 := k0 2 _ rfl
        have c3 := k0 3 _ rfl
        have c4 := k0 4 _ rfl
        have c5 := k0 5 _ rfl
        have hg2 : g < wr.heap.size := Nat.lt_of_lt_of_le hg hbr.out.size
        have hbk := brks_snoc hlt
        obtain ⟨x, hxe⟩ : ∃ x, l[i] = x := ⟨_, rfl⟩
        rw [hxe] at c0 c1 c2 c3 c4 c5 hbk
        clear hx k0
        replace hxe := Lib.hid hxe
        replace hbk := Lib.hid hbk
        obtain ⟨oa, oc, rfl⟩ := own_slice ho.out
        have hsz := hbr.out.size
        have ho2 := Lib.hid ((ho.out.alloc (.cells x.cells.toArray 75)).alloc (.cells x.brk.toArray 60))
        have hsr := Lib.hid (src_new (wr.alloc (.cells x.cells.toArray 75)) 60 x.brk (wr.heap.size + 1) (by simp))
        have hbA : Below W.heap.size W ((wr.alloc (.cells x.cells.toArray 75)).alloc (.cells x.brk.toArray 60)) := bl_alloc (bl_alloc hbr.out _) _
        replace hbr := Lib.hid hbr
        replace hbA := Lib.hid hbA
        have z0 : (0 : Int) ≤ (i : Int) := by omega
        have z1 : (i : Int) < (l.length : Int) := by omega
        have hbs : W.heap.size ≤ ((wr.alloc (.cells x.cells.toArray 75)).alloc (.cells x.brk.toArray 60)).heap.size := by simp; omega
        have hone := Lib.hid (brk_one x)
        have hgr := Lib.hid (fun w3 (hg : ((wr.alloc (.cells x.cells.toArray 75)).alloc (.cells x.brk.toArray 60)).grownBy w3 (Value.slice oa i oc).ownBlock) => hbA.out.grown hg hbs (fun j hj => (ho2.out.lt j hj).1))
        unfold Stp.cells Stp.brk at ho2 hsr hbs hone hgr
        have hbrk : x.brk = [.int .i64 x.id, .int .i64 x.kind, .int .i64 x.n, strV x.cond, .bool x.off] := rfl
        rw [hbrk] at hbk
        replace hbrk := Lib.hid hbrk
        replace hbs := Lib.hid hbs
        clear ho
        go_wp2_with (at_builtin; refine wpList_append_src _ (by rfl) (.tmp 17) (.tmp 20) 41 (by rfl) W.heap.size 60 i0 _ 5 48 Tryz.underlying41 hi0 hz0 hz1 hz2 (by rfl) (by decide) _ i (brksC (l.take i)) (by rfl) ho2.out _ 1 _ (by rfl) hsr.out rfl hone.out (by unfold maxLen; omega) (by omega) hbs.out ?_; intro v2 w2 ho3 hg3; have hb3 := hgr.out _ hg3; replace ho3 := Lib.hid ho3; replace hg3 := Lib.hid hg3)
        go_roundg (l.length - (i + 1))
        case measure => omega
        case rel => exact ⟨i + 1, rfl, by go_num, by omega, Lib.hid (by rw [hbk.out]; exact ho3.out), Lib.hid hb3⟩
      · obtain rfl : i = l.length := by omega
        rw [List.take_length] at ho
        go_wp2_with fail
        go_ret
        exact ⟨_, rfl, ho.out, hbr.out⟩
end Go.Proofs.YtcjcflmnghhbaaaGreat
