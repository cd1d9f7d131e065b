/-
  Contracts of Copy, slices.Clone (of bytes, of texts), slices.Grow of nil, slices.Concat, as chapter 23 calls them.
  Conditions: as each theorem states them.
-/
import Derived.Test.YtfbimghnimepjaaDel2
import Derived.OwnWalk
import Derived.Laws.OwnMore
import Derived.Lib.AppendZerosOnto
namespace Go.Proofs.Ytfbimghnimepjaa
open Go.RowKit
set_option linter.unusedVariables false
set_option linter.unusedSimpArgs false
theorem run_append_nil1 {P : Program} {w : World} (base : Nat) (t ty e : TypeId) (i : TypeInfo) (size : Nat) (ht : P.underlying t = some (.slice e)) (hi : P.info? e = some i)
    (v : Value) (n c : Nat) (xs : List Value) (hown : w.ownsRow base e size v n xs) :
    (Builtin.append_ #[t, t] ty #[v, .slice none 0 c]).run P w = .ok v w := by
  rcases hown.2 with ⟨rfl, rfl⟩ | ⟨g, cap, cur, rfl, _, _, hnc, _⟩
  · simp [Builtin.append_, run_underlying ht, sizeOf, typeInfo, hi, Builtin.lenOf, Builtin.firstCells]
  · simp [Builtin.append_, run_underlying ht, sizeOf, typeInfo, hi, Builtin.lenOf, Builtin.firstCells, hnc, storeCells]
/-- values at an address, or none -/
def ValsAt (w : World) (a : Option Addr) (vs : List Value) : Prop := (a = none ∧ vs = []) ∨ ∃ ad, a = some ad ∧ ∀ j u, vs[j]? = some u → w.cell? (ad.add j) = some u
/-- 'append(buf, xs...)', buf the call's own, xs whatever slice of one-cell values -/
theorem wpList_append_vs {P : Program} {w : World} {ops : Array Oper} {rest : List Oper} {o : Oper} {a : Act} {Q : Exit → Act → World → Prop} (hgd : o.guard = none) (s x : Operand) (t : TypeId)
    (ho : o.op = .call { callee := .builtin .append, args := #[s, x], argTypes := #[t, t] })
    (base : Nat) (e : TypeId) (i : TypeInfo) (z : Value) (bytes : Nat) (ht : P.underlying t = some (.slice e)) (hi : P.info? e = some i) (hz : i.zero = some z) (hsize : i.size = 1) (hby : i.bytes = bytes) (hzs : z.cells.size = 1)
    (v : Value) (n : Nat) (ys : List Value) (hs : a.eval s = v) (hown : w.ownsRow base e 1 v n ys)
    (ba : Option Addr) (m c : Nat) (vs : List Value) (hm : vs.length = m) (hx : a.eval x = .slice ba m c) (hsrc : ValsAt w ba vs) (hone : ∀ u ∈ vs, u.oneCell' = true)
    (h63 : n + m ≤ maxLen) (hbound : (n + m) * bytes ≤ 140737488355328) (hbase : base ≤ w.heap.size)
    (h : ∀ v' w', w'.ownsRow base e 1 v' (n + m) (ys ++ vs) → w.grownBy w' v.ownBlock → wpList P ops Q rest (a.put o.dst v') w') : wpList P ops Q (o :: rest) a w := by
  subst hm
  rcases hsrc with ⟨rfl, rfl⟩ | ⟨ad, rfl, hc⟩
  · refine wpList_plain hgd fun K hK => ?_
    have hrun := run_append_nil1 (P := P) (w := w) base t o.type e i 1 ht hi v n c ys hown
    unfold Oper.wp
    simp only [List.length_nil] at hx
    simp [execOp, ho, resolve, invoke, builtin, hs, hx, hrun, Result.andThen]
    exact hK _ _ (h v w (by simpa using hown) (World.grownBy.refl _ _))
  · exact wpList_append_own w hgd s x t ho base e i z 1 bytes ht hi hz hsize hby hzs (by omega) v n ys hs hown ad vs.length c vs hx (by simp) hc hone h63 hbound hbase (fun v' w' h1 h2 _ => h v' w' h1 h2)
def bv (x : UInt8) : Value := .int .u8 (x.toNat : Int)
theorem bv_one (xs : List UInt8) : ∀ u ∈ xs.map bv, u.oneCell' = true := fun u hu => by
  obtain ⟨x, _, rfl⟩ := List.mem_map.1 hu; rfl
theorem ByAt.vals {K : Nat → Prop} {own : Bool} {w : World} {a : Option Addr} {xs : List UInt8} (h : ByAt K own w a xs) : ValsAt w a (xs.map bv) := by
  by_cases h0 : 0 < xs.length
  · obtain ⟨b, o, rfl, _, _, _, r⟩ := h h0
    refine .inr ⟨_, rfl, fun j u hj => ?_⟩
    obtain ⟨hj1, hj2⟩ := List.getElem?_eq_some_iff.1 hj
    have hj3 : j < xs.length := by simpa using hj1
    rw [addr_add, r j hj3, ← hj2]
    simp [bv]
  · have : xs = [] := List.length_eq_zero_iff.1 (by omega)
    subst this
    cases a with
    | none => exact .inl ⟨rfl, rfl⟩
    | some a => exact .inr ⟨a, rfl, fun j u hj => by simp at hj⟩
/-- the values of a list of texts -/
theorem TxAt.vals {K : Nat → Prop} {own : Bool} {w : World} {a : Option Addr} {xs : List (List UInt8)} (h : TxAt K own w a xs) :
    ∃ vs : List Value, vs.length = xs.length ∧ ValsAt w a vs ∧ (∀ u ∈ vs, u.oneCell' = true) ∧ ∀ i (hi : i < xs.length), TxCell K own w vs[i]? xs[i] := by
  by_cases h0 : 0 < xs.length
  · obtain ⟨b, o, rfl, _, _, r⟩ := h h0
    have hv : ∀ i, i < xs.length → ∃ v, w.cell? ⟨b, o + i, none⟩ = some v ∧ v.oneCell' = true := fun i hi => by
      obtain ⟨xa, xc, e, _⟩ := r i hi
      exact ⟨_, e, rfl⟩
    obtain ⟨f, hf⟩ := Deep.choose_lt (α := Value) hv
    refine ⟨(List.range xs.length).map f, by simp, .inr ⟨_, rfl, fun j u hj => ?_⟩, fun u hu => ?_, fun i hi => ?_⟩
    · obtain ⟨hj1, hj2⟩ := List.getElem?_eq_some_iff.1 hj
      have hj3 : j < xs.length := by simpa using hj1
      rw [addr_add, (hf j hj3).1, ← hj2]
      simp
    · obtain ⟨i, hi, rfl⟩ := List.mem_map.1 hu
      exact (hf i (by simpa using hi)).2
    · have : ((List.range xs.length).map f)[i]? = w.cell? ⟨b, o + i, none⟩ := by rw [(hf i hi).1]; simp [hi]
      rw [this]; exact r i hi
  · have : xs = [] := List.length_eq_zero_iff.1 (by omega)
    subst this
    refine ⟨[], rfl, ?_, by simp, fun i hi => by simp at hi⟩
    cases a with
    | none => exact .inl ⟨rfl, rfl⟩
    | some a => exact .inr ⟨a, rfl, fun j u hj => by simp at hj⟩
theorem ValsAt.below {w w' : World} {a : Option Addr} {vs : List Value} (h : ValsAt w a vs) (hb : Below w.heap.size w w') : ValsAt w' a vs := by
  rcases h with h | ⟨ad, rfl, hc⟩
  · exact .inl h
  · exact .inr ⟨ad, rfl, fun j u hj => by
      have h1 := hc j u hj
      have h2 := World.block_lt_of_cell? w _ h1
      exact (hb.cell h2).trans h1⟩
theorem ValsAt.none_nil {w : World} {vs : List Value} (h : ValsAt w none vs) : vs = [] := by
  rcases h with ⟨_, h⟩ | ⟨ad, h, _⟩
  · exact h
  · cases h
theorem info5_ : (Try.prog.info? 5).map (fun i => (i.zero, i.size, i.bytes)) = some (some (.int .u8 0), 1, 1) := by kernel_rfl
theorem info73_ : (Try.prog.info? 73).map (fun i => (i.zero, i.size, i.bytes)) = some (some (.slice none 0 0), 1, 24) := by kernel_rfl
theorem rcopy_any (ba : Option Addr) (bc : Nat) (xs : List UInt8) (w : World) (hl : xs.length ≤ 1000000) (hs : ByAt (fun _ => True) false w ba xs) :
    Calls Try.prog 77 #[.slice ba xs.length bc] w fun e w' => ∃ v, e = .returned v ∧ w'.ownsRow w.heap.size 5 1 v xs.length (xs.map bv) ∧ Below w.heap.size w w' := by
  obtain ⟨i0, hi, hz0, hz1, hz2⟩ := info_parts info5_
  have ho := World.ownsRow_lit (base := w.heap.size) (e := 5) (size := 1) w #[] 0 (Nat.le_refl _) (by decide) rfl
  have hs' := hs.vals.below (bl_alloc (Below.refl _ _) (.cells #[] 5))
  have hm : (xs.map bv).length = xs.length := by simp
  have h1 := bv_one xs
  clear hs
  replace ho := Lib.hid ho
  replace hs' := Lib.hid hs'
  replace hm := Lib.hid hm
  replace h1 := Lib.hid h1
  go_enter Try.func77, Try.ntmps77
  go_wp2_with (at_builtin; refine wpList_append_vs rfl (.tmp 3) (.tmp 4) 73 rfl w.heap.size 5 i0 (.int .u8 0) 1 Try.underlying73 hi hz0 hz1 hz2 rfl _ _ _ rfl ho.out ba xs.length bc (xs.map bv) hm.out rfl hs'.out h1.out (by unfold maxLen; omega) (by omega) (by simp) ?_; intro v1 w1 hown1 hgrow1)
  all_goals go_ret
  all_goals exact ⟨v1, rfl, by simpa using hown1, (bl_alloc (Below.refl _ _) _).grown hgrow1 (by simp) (fun j hj => (ho.out.lt j hj).1)⟩
theorem clone_any (ba : Option Addr) (bc : Nat) (xs : List UInt8) (w : World) (hl : xs.length ≤ 1000000) (hs : ByAt (fun _ => True) false w ba xs) :
    Calls Try.prog 72 #[.slice ba xs.length bc] w fun e w' => ∃ v, e = .returned v ∧ w'.ownsRow w.heap.size 5 1 v xs.length (xs.map bv) ∧ Below w.heap.size w w' := by
  obtain ⟨i0, hi, hz0, hz1, hz2⟩ := info_parts info5_
  have hq := fun (w : World) a n c => Lib.run_eql_slice_nil (P := Try.prog) w 73 5 a n c 0 0 Try.underlying73
  cases ba with
  | none =>
    obtain rfl : xs = [] := by simpa using hs.vals.none_nil
    clear hs
    go_enter Try.func72, Try.ntmps72
    go_wp2_with fail
    all_goals go_ret
    all_goals exact ⟨_, rfl, World.ownsRow_nil _ _ _ _, Below.refl _ _⟩
  | some ad =>
    have ho := World.ownsRow_lit (base := w.heap.size) (e := 5) (size := 1) w #[] 0 (Nat.le_refl _) (by decide) rfl
    have hs' := hs.vals.below (bl_alloc (Below.refl _ _) (.cells #[] 5))
    have hm : (xs.map bv).length = xs.length := by simp
    have h1 := bv_one xs
    clear hs
    replace ho := Lib.hid ho
    replace hs' := Lib.hid hs'
    replace hm := Lib.hid hm
    replace h1 := Lib.hid h1
    go_enter Try.func72, Try.ntmps72
    go_wp2_with (at_builtin; refine wpList_append_vs rfl (.tmp 5) (.tmp 6) 73 rfl w.heap.size 5 i0 (.int .u8 0) 1 Try.underlying73 hi hz0 hz1 hz2 rfl _ _ _ rfl ho.out (some ad) xs.length bc (xs.map bv) hm.out rfl hs'.out h1.out (by unfold maxLen; omega) (by omega) (by simp) ?_; intro v1 w1 hown1 hgrow1)
    all_goals go_ret
    all_goals exact ⟨v1, rfl, by simpa using hown1, (bl_alloc (Below.refl _ _) _).grown hgrow1 (by simp) (fun j hj => (ho.out.lt j hj).1)⟩
theorem cloneT_any (ba : Option Addr) (n bc : Nat) (vs : List Value) (w : World) (hn : vs.length = n) (hl : n ≤ 1000000) (hs : ValsAt w ba vs) (hone : ∀ u ∈ vs, u.oneCell' = true) :
    Calls Try.prog 81 #[.slice ba n bc] w fun e w' => ∃ v, e = .returned v ∧ w'.ownsRow w.heap.size 73 1 v n vs ∧ Below w.heap.size w w' := by
  obtain ⟨i0, hi, hz0, hz1, hz2⟩ := info_parts info73_
  have hq := fun (w : World) a n c => Lib.run_eql_slice_nil (P := Try.prog) w 69 73 a n c 0 0 Try.underlying69
  cases ba with
  | none =>
    obtain rfl : vs = [] := hs.none_nil
    obtain rfl : 0 = n := by simpa using hn
    clear hs hone hn
    go_enter Try.func81, Try.ntmps81
    go_wp2_with fail
    all_goals go_ret
    all_goals exact ⟨_, rfl, World.ownsRow_nil _ _ _ _, Below.refl _ _⟩
  | some ad =>
    have ho := World.ownsRow_lit (base := w.heap.size) (e := 73) (size := 1) w #[] 0 (Nat.le_refl _) (by decide) rfl
    have hs' := hs.below (bl_alloc (Below.refl _ _) (.cells #[] 73))
    clear hs
    replace ho := Lib.hid ho
    replace hs' := Lib.hid hs'
    replace hn := Lib.hid hn
    replace hone := Lib.hid hone
    go_enter Try.func81, Try.ntmps81
    go_wp2_with (at_builtin; refine wpList_append_vs rfl (.tmp 5) (.tmp 6) 69 rfl w.heap.size 73 i0 (.slice none 0 0) 24 Try.underlying69 hi hz0 hz1 hz2 rfl _ _ _ rfl ho.out (some ad) n bc vs hn.out rfl hs'.out hone.out (by unfold maxLen; omega) (by omega) (by simp) ?_; intro v1 w1 hown1 hgrow1)
    all_goals go_ret
    all_goals exact ⟨v1, rfl, by simpa using hown1, (bl_alloc (Below.refl _ _) _).grown hgrow1 (by simp) (fun j hj => (ho.out.lt j hj).1)⟩
set_option maxHeartbeats 1000000 in
set_option maxRecDepth 100000 in
theorem growNil_any (n : Nat) (w : World) (hl : n ≤ 1000000) :
    Calls Try.prog 85 #[.slice none 0 0, .int .i64 (n : Int)] w fun e w' => ∃ v, e = .returned v ∧ w'.ownsRow w.heap.size 5 1 v 0 [] ∧ Below w.heap.size w w' := by
  obtain ⟨i0, hi, hz0, hz1, hz2⟩ := info_parts info5_
  by_cases h0 : n = 0
  · subst h0
    go_enter Try.func85, Try.ntmps85
    go_wp2_with fail
    all_goals go_ret
    all_goals exact ⟨_, rfl, World.ownsRow_nil _ _ _ _, Below.refl _ _⟩
  · have hold : (Builtin.firstCells i0.size 0 (.slice none 0 0)).run Try.prog w.drew = .ok #[] w.drew := by simp [Builtin.firstCells]
    have hrz : ∀ ty, (Builtin.append_ #[73, 3] ty #[.slice none 0 0, .int .i64 (n : Int)]).run Try.prog w = .ok (.slice (some ⟨w.heap.size, 0, none⟩) n (grownCap w n 0 5)) (w.drew.alloc (.cells (Builtin.zeroCells (Value.int .u8 0).cells n ++ Builtin.zeroCells (Value.int .u8 0).cells (grownCap w n 0 5 - n)) 5)) := fun ty => by
      have h := Lib.run_append_grow_zeros w 73 3 ty 5 i0 (.int .u8 0) .i64 .i64 Try.underlying73 Try.underlying3 hi hz0 none 0 0 [] hold n (by omega) (by omega) (by omega) (by omega) (by rw [hz2]; omega) (growslice_fits (by omega) (by rw [hz2]; omega))
      simpa using h
    have hge := grownCap_ge w n 0 5
    have hle := grownCap_le_maxLen w n 0 5 (by unfold maxLen; omega)
    obtain ⟨G, hG⟩ : ∃ G, G = grownCap w n 0 5 := ⟨_, rfl⟩
    rw [← hG] at hrz hge hle
    have hG63 : G ≤ 9223372036854775807 := by unfold maxLen at hle; omega
    have hown : (w.drew.alloc (.cells (Builtin.zeroCells (Value.int .u8 0).cells n ++ Builtin.zeroCells (Value.int .u8 0).cells (G - n)) 5)).ownsRow w.heap.size 5 1 (.slice (some ⟨w.heap.size, 0, none⟩) 0 G) 0 [] :=
      World.ownsRow_made w.drew _ G (by simp) hle (by simp [Builtin.zeroCells, Value.cells]; omega)
    clear hold hG
    replace hown := Lib.hid hown
    replace hle := Lib.hid hle
    go_enter Try.func85, Try.ntmps85
    go_wp2_with (at_builtin; refine Lib.wpList_append_run _ rfl _ _ _ _ rfl _ _ rfl rfl _ _ (hrz _) ?_)
    all_goals go_ret
    all_goals exact ⟨_, rfl, hown.out, bl_alloc (bl_drew (Below.refl _ _)) _⟩
end Go.Proofs.Ytfbimghnimepjaa
