/-
  The reference's snapshots in memory; its Ahead, Behind; of chapter 25.
  Conditions: as each theorem states them.
-/
import Derived.Test.YtfidmpkblmebeaaSnap6
import Derived.Test.YtfidmpkblmebeaaRowP
import Derived.Maps.AppendAt
namespace Go.Proofs.Ytfidmpkblmebeaa
open Go.RowKit
set_option linter.unusedVariables false
set_option linter.unusedSimpArgs false
attribute [local go_sem ↓] load_st store_st
/-- a snapshot's cells -/
def rowR (x : Int × StC) : List Value := .int .i64 x.1 :: x.2.cells
def rowsR (L : List (Int × StC)) : List Value := (L.map rowR).flatten
theorem rowR_len (x : Int × StC) : (rowR x).length = 28 := rfl
theorem rowsR_len : ∀ L : List (Int × StC), (rowsR L).length = L.length * 28
  | [] => rfl
  | x :: L => by
    have := rowsR_len L
    have e : rowsR (x :: L) = rowR x ++ rowsR L := rfl
    rw [e, List.length_append, this, rowR_len, List.length_cons]; omega
theorem rowsR_get : ∀ (L : List (Int × StC)) (i j : Nat) (hi : i < L.length), j < 28 → (rowsR L)[i * 28 + j]? = (rowR L[i])[j]?
  | [], i, j, hi, _ => by simp at hi
  | x :: L, 0, j, _, hj => by
    show (rowR x ++ rowsR L)[0 * 28 + j]? = (rowR x)[j]?
    rw [Nat.zero_mul, Nat.zero_add, List.getElem?_append_left (by rw [rowR_len]; exact hj)]
  | x :: L, i + 1, j, hi, hj => by
    show (rowR x ++ rowsR L)[(i + 1) * 28 + j]? = _
    rw [List.getElem?_append_right (by rw [rowR_len]; omega), rowR_len, show (i + 1) * 28 + j - 28 = i * 28 + j by omega]
    exact rowsR_get L i j (by simpa using hi) hj
theorem rowsR_one (L : List (Int × StC)) : ∀ u ∈ rowsR L, u.oneCell' = true := by
  intro u hu
  obtain ⟨r, hr, hu⟩ := List.mem_flatten.1 hu
  obtain ⟨x, _, rfl⟩ := List.mem_map.1 hr
  rcases List.mem_cons.1 hu with rfl | hu
  · rfl
  · exact x.2.one u hu
noncomputable def snLoad (a : Addr) : Sem Value := loadVar 54 a
theorem load_sn (a : Addr) : loadVar 54 a = snLoad a := rfl
/-- the reference's snapshots in memory: the rows lie from base on -/
structure RefAt (w : World) (xb base : Nat) (period : Int) (L : List (Int × StC)) : Prop where
  low : xb < base
  ex : ∃ a c, Blk w xb 31 [.int .i64 period, .slice a L.length c] ∧ w.ownsRow base 54 28 (.slice a L.length c) L.length (rowsR L)
theorem own_only {K : Nat → Prop} {w w' : World} {base e k n : Nat} {v : Value} {xs : List Value} (h : w.ownsRow base e k v n xs) (ho : Only K w w') (hK : ∀ b, base ≤ b → b < w.heap.size → ¬ K b) : w'.ownsRow base e k v n xs := by
  refine ⟨h.1, ?_⟩
  rcases h.2 with h2 | ⟨g, cap, cur, h1, h2, h3, h4⟩
  · exact .inl h2
  · have hl := (Array.getElem?_eq_some_iff.1 h3).1
    exact .inr ⟨g, cap, cur, h1, h2, (ho.block g hl (hK g h2 hl)).trans h3, h4⟩
theorem RefAt.only {K : Nat → Prop} {w w' : World} {xb base : Nat} {period : Int} {L : List (Int × StC)} (h : RefAt w xb base period L) (ho : Only K w w') (hx : ¬ K xb) (hK : ∀ b, base ≤ b → b < w.heap.size → ¬ K b) : RefAt w' xb base period L := by
  obtain ⟨a, c, h1, h2⟩ := h.ex
  exact ⟨h.low, a, c, h1.only ho hx, own_only h2 ho hK⟩
theorem RefAt.below {w w' : World} {xb base : Nat} {period : Int} {L : List (Int × StC)} (h : RefAt w xb base period L) (hb : Below w.heap.size w w') : RefAt w' xb base period L := h.only (K := fun _ => False) (Only.of_below hb) id (fun _ _ _ => id)
/-- a snapshot's place -/
theorem row_at {w : World} {base : Nat} {a : Option Addr} {c : Nat} {L : List (Int × StC)} (h : w.ownsRow base 54 28 (.slice a L.length c) L.length (rowsR L)) {i : Nat} (hi : i < L.length) :
    ∃ g, a = some ⟨g, 0, none⟩ ∧ base ≤ g ∧ g < w.heap.size ∧ ∀ i (hi : i < L.length), w.cell? ⟨g, i * 28, none⟩ = some (.int .i64 (L[i]).1) ∧ (stLoad ⟨g, i * 28 + 1, none⟩).run Try.prog w = .ok (.agg (L[i]).2.cells.toArray) w ∧ (snLoad ⟨g, i * 28, none⟩).run Try.prog w = .ok (.agg (rowR L[i]).toArray) w := by
  rcases h.2 with ⟨h1, h2⟩ | ⟨g, cap, cur, h1, h2, h3, _⟩
  · exfalso
    have := congrArg (fun v => match v with | .slice _ n _ => n | _ => 0) h1
    simp at this; omega
  · obtain ⟨rfl, rfl⟩ : a = some ⟨g, 0, none⟩ ∧ c = cap := by simpa using h1
    refine ⟨g, rfl, h2, (Array.getElem?_eq_some_iff.1 h3).1, fun i hi => ?_⟩
    have hc : ∀ j u, (rowR L[i])[j]? = some u → w.cell? ⟨g, i * 28 + j, none⟩ = some u := fun j u hu => by
      have hj : j < 28 := by rw [← rowR_len L[i]]; exact (List.getElem?_eq_some_iff.1 hu).1
      rw [h.cellAt _ (by rw [Nat.mul_comm]; omega), rowsR_get L i j hi hj, hu]
    exact ⟨hc 0 _ rfl, run_loadVar_mid w g (i * 28 + 1) 43 (L[i]).2.cells _ (fun j u hu => by have := hc (j + 1) u hu; rw [show i * 28 + 1 + j = i * 28 + (j + 1) by omega]; exact this) Try.underlying43 rfl (by kernel_rfl),
      run_loadVar_mid w g (i * 28) 54 (rowR L[i]) _ hc Try.underlying54 rfl (by kernel_rfl)⟩
/-- what the reference's looking answers -/
def RLook (o : Option (Int × StC)) (e : Ending) : Prop := match o with
  | none => e = .returned (.tuple #[.int .i64 0, .agg zeroC.cells.toArray, .bool false])
  | some x => e = .returned (.tuple #[.int .i64 x.1, .agg x.2.cells.toArray, .bool true])
section
variable {α : Type} {L : List (Int × α)} {n : Int}
theorem ahead_hit {i : Nat} (hi : i < L.length) (h : (L[i]).1 ≤ n) (hr : ∀ j (hj : j < L.length), i < j → ¬ (L[j]).1 ≤ n) : SM.ahead L n = some L[i] := by
  have e : L = L.take i ++ L[i] :: L.drop (i + 1) := by rw [List.getElem_cons_drop, List.take_append_drop]
  have hd : (L.drop (i + 1)).filter (fun p => decide (p.1 ≤ n)) = [] := List.filter_eq_nil_iff.2 fun p hp => by
    obtain ⟨k, hk, rfl⟩ := List.mem_iff_getElem.1 hp
    rw [List.getElem_drop]
    have := hr (i + 1 + k) (by simp at hk; omega) (by omega)
    simpa using this
  unfold SM.ahead
  have : L.filter (fun p => decide (p.1 ≤ n)) = (L.take i).filter (fun p => decide (p.1 ≤ n)) ++ [L[i]] := by
    conv => lhs; rw [e]
    rw [List.filter_append, List.filter_cons_of_pos (by simpa using h), hd]
  rw [this, List.getLast?_append, List.getLast?_singleton]
  rfl
theorem ahead_miss (hr : ∀ j (hj : j < L.length), ¬ (L[j]).1 ≤ n) : SM.ahead L n = none := by
  unfold SM.ahead
  have hd : L.filter (fun p => decide (p.1 ≤ n)) = [] := List.filter_eq_nil_iff.2 fun p hp => by
    obtain ⟨k, hk, rfl⟩ := List.mem_iff_getElem.1 hp
    simpa using hr k hk
  rw [hd]; rfl
theorem behind_hit {i : Nat} (hi : i < L.length) (h : n ≤ (L[i]).1) (hr : ∀ j (hj : j < L.length), j < i → ¬ n ≤ (L[j]).1) : SM.behind L n = some L[i] := by
  have e : L = L.take i ++ L[i] :: L.drop (i + 1) := by rw [List.getElem_cons_drop, List.take_append_drop]
  unfold SM.behind
  conv => lhs; rw [e]
  rw [List.find?_append]
  have h1 : (L.take i).find? (fun p => decide (n ≤ p.1)) = none := List.find?_eq_none.2 fun p hp => by
    obtain ⟨k, hk, rfl⟩ := List.mem_iff_getElem.1 hp
    rw [List.getElem_take]
    simpa using hr k (by simp at hk; omega) (by simp at hk; omega)
  rw [h1, List.find?_cons_of_pos (by simpa using h)]
  rfl
theorem behind_miss (hr : ∀ j (hj : j < L.length), ¬ n ≤ (L[j]).1) : SM.behind L n = none := by
  unfold SM.behind
  refine List.find?_eq_none.2 fun p hp => ?_
  obtain ⟨k, hk, rfl⟩ := List.mem_iff_getElem.1 hp
  simpa using hr k hk
end
set_option maxHeartbeats 4000000 in
set_option maxRecDepth 100000 in
theorem rbehind_any {w : World} {xb base : Nat} {period : Int} {L : List (Int × StC)} (hX : RefAt w xb base period L) (hl : L.length ≤ 100000) (k : Int) :
    Calls Try.prog 24 #[.pointer (some ⟨xb, 0, none⟩), .int .i64 k] w fun e w' => RLook (SM.behind L k) e ∧ Below w.heap.size w w' := by
  have hR := Blk.new w 43 zeroC.cells
  have hb1 : Below w.heap.size w (w.alloc (.cells zeroC.cells.toArray 43)) := bl_alloc (Below.refl _ _) _
  have hxw : xb < w.heap.size := by obtain ⟨_, _, hB, _⟩ := hX.ex; exact hB.lt
  obtain ⟨W1, hW1⟩ : ∃ W1, w.alloc (.cells zeroC.cells.toArray 43) = W1 := ⟨_, rfl⟩
  rw [hW1] at hR hb1
  obtain ⟨a, c, hB, hO⟩ := (hX.below hb1).ex
  have x1 : W1.cell? ⟨xb, 1, none⟩ = some (.slice a L.length c) := hB.cell 1
  have xl := hB.lt
  have hrow := Lib.hid (fun i hi => row_at hO (i := i) hi)
  have hrow2 := Lib.hid (fun i hi => row_at (w := W1.drew) hO (i := i) hi)
  have hhit := Lib.hid (fun i hi h (hr : ∀ j (hj : j < L.length), j < i → (L[j]).1 < k) => behind_hit (L := L) (n := k) (i := i) hi h (fun j a b => by have := hr j a b; omega))
  have hmiss := Lib.hid (fun (hr : ∀ j (hj : j < L.length), (L[j]).1 < k) => behind_miss (L := L) (n := k) (fun j a => by have := hr j a; omega))
  have hfin := Lib.hid (fun X (ho : Only (fun i => i = w.heap.size) W1 X) => hb1.trans (ho.below hb1.size (fun i hi => Nat.le_of_eq hi.symm)))
  obtain ⟨rb, hrb⟩ : ∃ rb, w.heap.size = rb := ⟨_, rfl⟩
  rw [hrb] at hR hfin hxw
  have hst := Lib.hid (fun (s : StC) => stStore_is s (hR.below (bl_drew (Below.refl _ _))) rfl)
  have hst2 := Lib.hid (stStore_is zeroC hR rfl)
  have hkx := Lib.hid (fun X (ho : Only (fun i => i = rb) W1 X) => (hB.only ho (by show ¬ xb = rb; omega)).cell 1)
  have hrl := hR.lt
  rw [hrb]
  replace hrb := Lib.hid hrb
  replace hW1 := Lib.hid hW1
  unfold zeroC StC.cells at hW1
  obtain ⟨m, hm⟩ : ∃ m, L.length = m := ⟨_, rfl⟩
  rw [hm] at x1 hl
  replace hm := Lib.hid hm
  clear hB hO hX hb1 hR hxw
  go_enter Try.func24, Try.ntmps24
  go_upto_region 1 with fail
  rw [hW1.out, hrb.out]
  go_wp2_with fail
  go_loopg [7] m (fun gh u wr => ∃ i : Nat, gh = m - i ∧ u = .int .i64 (i : Int) ∧ i ≤ m ∧ wr = W1 ∧ Hid (∀ j (hj : j < L.length), j < i → (L[j]).1 < k))
  case atStart => exact ⟨0, rfl, rfl, Nat.zero_le _, rfl, Lib.hid (fun j hj h => absurd h (Nat.not_lt_zero j))⟩
  case round =>
    obtain ⟨i, rfl, rfl, him, rfl, hno⟩ := hrel
    by_cases hlt : i < m
    · have hi' : i < L.length := by rw [hm.out]; omega
      obtain ⟨g, rfl, hg1, hg2, hcell⟩ := hrow.out i hi'
      obtain ⟨g', hgg, _, _, hcell2⟩ := hrow2.out i hi'
      obtain rfl : g = g' := by simpa using hgg
      obtain ⟨c0, -, -⟩ := hcell i hi'
      obtain ⟨-, c1, -⟩ := hcell2 i hi'
      have hH := fun h => hhit.out i hi' h hno.out
      have hN : (L[i]).1 < k → ∀ j (hj : j < L.length), j < i + 1 → (L[j]).1 < k := fun h j hj hji => by
        rcases Nat.lt_or_eq_of_le (Nat.le_of_lt_succ hji) with h1 | h1
        · exact hno.out j hj h1
        · subst h1; exact h
      obtain ⟨nn, hnn⟩ : ∃ nn, (L[i]).1 = nn := ⟨_, rfl⟩
      obtain ⟨s, hs⟩ : ∃ s, (L[i]).2 = s := ⟨_, rfl⟩
      rw [hnn] at c0 hH hN
      rw [hs] at c1
      have hx : L[i] = (nn, s) := by rw [← hnn, ← hs]
      rw [hx] at hH
      replace hN := Lib.hid hN
      have hit : (i : Int) < (m : Int) := by omega
      have hi0 : (0 : Int) ≤ (i : Int) := by omega
      clear hcell hcell2
      replace hx := Lib.hid hx
      replace hnn := Lib.hid hnn
      replace hs := Lib.hid hs
      by_cases hk : (k ≤ nn)
      · have q0 : decide (k ≤ nn) = true := by simpa using hk
        have hh := Lib.hid (hH hk)
        obtain ⟨w6, S6, hB6, hO6⟩ := hst.out s
        have L6 := stLoad_is s hB6
        obtain ⟨C, hC⟩ : ∃ C, s.cells.toArray = C := ⟨_, rfl⟩
        rw [hC] at c1 S6 L6
        have hO6' := Lib.hid ((Only.refl (fun i => i = rb) wr).drew.trans hO6)
        have hfin' := Lib.hid (hfin.out w6 hO6'.out)
        have y1 := hkx.out w6 hO6'.out
        rw [hm.out] at y1
        replace y1 : w6.cell? ⟨xb, 1, none⟩ = some (.slice (some ⟨g, 0, none⟩) m c) := y1
        clear hH hN hst hst2 hfin hB6 hO6 hO6'
        replace hC := Lib.hid hC
        go_wp2_with fail
        go_region
        all_goals go_wp2_with fail
        all_goals exact bodyPost_ret (v := .tuple #[.int .i64 nn, .agg C, .bool true]) (by simp [results, Try.results24, ↓load_st, asAddr, L6, Result.andThen]) rfl ⟨by rw [hh.out, ← hC.out]; rfl, hfin'.out⟩
      · have q0 : decide (k ≤ nn) = false := by simpa using hk
        have hn1 := Lib.hid (hN.out (by omega))
        clear hH hN hst hst2 hfin
        go_wp2_with fail
        go_roundg (m - (i + 1))
        case measure => omega
        case rel => exact ⟨i + 1, rfl, by go_num, by omega, rfl, hn1⟩
    · obtain rfl : i = m := by omega
      have hmm := Lib.hid (hmiss.out (fun j hj => hno.out j hj (by have := hm.out; omega)))
      obtain ⟨w6, S6, hB6, hO6⟩ := hst2.out
      have L6 := stLoad_is zeroC hB6
      have hfin' := Lib.hid (hfin.out w6 hO6)
      unfold zeroC StC.cells at S6
      obtain ⟨C, hC⟩ : ∃ C, zeroC.cells.toArray = C := ⟨_, rfl⟩
      rw [hC] at L6
      replace hC := Lib.hid hC
      clear hst hst2 hfin hB6 hO6
      go_wp2_with fail
      exact bodyPost_ret (v := .tuple #[.int .i64 0, .agg C, .bool false]) (by simp [results, Try.results24, ↓load_st, asAddr, L6, Result.andThen]) rfl ⟨by rw [hmm.out, ← hC.out]; rfl, hfin'.out⟩
set_option maxHeartbeats 4000000 in
set_option maxRecDepth 100000 in
theorem rahead_any {w : World} {xb base : Nat} {period : Int} {L : List (Int × StC)} (hX : RefAt w xb base period L) (hl : L.length ≤ 100000) (k : Int) :
    Calls Try.prog 22 #[.pointer (some ⟨xb, 0, none⟩), .int .i64 k] w fun e w' => RLook (SM.ahead L k) e ∧ Below w.heap.size w w' := by
  have hR := Blk.new w 43 zeroC.cells
  have hb1 : Below w.heap.size w (w.alloc (.cells zeroC.cells.toArray 43)) := bl_alloc (Below.refl _ _) _
  have hxw : xb < w.heap.size := by obtain ⟨_, _, hB, _⟩ := hX.ex; exact hB.lt
  obtain ⟨W1, hW1⟩ : ∃ W1, w.alloc (.cells zeroC.cells.toArray 43) = W1 := ⟨_, rfl⟩
  rw [hW1] at hR hb1
  obtain ⟨a, c, hB, hO⟩ := (hX.below hb1).ex
  have x1 : W1.cell? ⟨xb, 1, none⟩ = some (.slice a L.length c) := hB.cell 1
  have xl := hB.lt
  have hrow := Lib.hid (fun i hi => row_at hO (i := i) hi)
  have hrow2 := Lib.hid (fun i hi => row_at (w := W1.drew) hO (i := i) hi)
  have hhit := Lib.hid (fun i hi h (hr : ∀ j (hj : j < L.length), i < j → k < (L[j]).1) => ahead_hit (L := L) (n := k) (i := i) hi h (fun j a b => by have := hr j a b; omega))
  have hmiss := Lib.hid (fun (hr : ∀ j (hj : j < L.length), k < (L[j]).1) => ahead_miss (L := L) (n := k) (fun j a => by have := hr j a; omega))
  have hfin := Lib.hid (fun X (ho : Only (fun i => i = w.heap.size) W1 X) => hb1.trans (ho.below hb1.size (fun i hi => Nat.le_of_eq hi.symm)))
  obtain ⟨rb, hrb⟩ : ∃ rb, w.heap.size = rb := ⟨_, rfl⟩
  rw [hrb] at hR hfin hxw
  have hst := Lib.hid (fun (s : StC) => stStore_is s (hR.below (bl_drew (Below.refl _ _))) rfl)
  have hst2 := Lib.hid (stStore_is zeroC hR rfl)
  have hkx := Lib.hid (fun X (ho : Only (fun i => i = rb) W1 X) => (hB.only ho (by show ¬ xb = rb; omega)).cell 1)
  have hrl := hR.lt
  rw [hrb]
  replace hrb := Lib.hid hrb
  replace hW1 := Lib.hid hW1
  unfold zeroC StC.cells at hW1
  obtain ⟨m, hm⟩ : ∃ m, L.length = m := ⟨_, rfl⟩
  rw [hm] at x1 hl
  replace hm := Lib.hid hm
  clear hB hO hX hb1 hR hxw
  go_enter Try.func22, Try.ntmps22
  go_upto_region 1 with fail
  rw [hW1.out, hrb.out]
  have hwr : IntKind.i64.wrap ((m : Int) - 1) = (m : Int) - 1 := IntWalk.i64_in _ (by omega)
  go_wp2_with fail
  go_loopg [7] m (fun gh u wr => ∃ i : Nat, gh = 0 + i ∧ u = .int .i64 ((i : Int) - 1) ∧ i ≤ m ∧ wr = W1 ∧ Hid (∀ j (hj : j < L.length), i ≤ j → k < (L[j]).1))
  case atStart => exact ⟨m, (Nat.zero_add m).symm, rfl, Nat.le_refl _, rfl, Lib.hid (fun j hj h => by have := hm.out; omega)⟩
  case round =>
    obtain ⟨i1, rfl, rfl, him, rfl, hno⟩ := hrel
    by_cases hlt : 0 < i1
    · obtain ⟨i, rfl⟩ : ∃ i, i1 = i + 1 := ⟨i1 - 1, by omega⟩
      have hid1 : ((i + 1 : Nat) : Int) - 1 = (i : Int) := by omega
      rw [hid1]
      have hi' : i < L.length := by rw [hm.out]; omega
      obtain ⟨g, rfl, hg1, hg2, hcell⟩ := hrow.out i hi'
      obtain ⟨g', hgg, _, _, hcell2⟩ := hrow2.out i hi'
      obtain rfl : g = g' := by simpa using hgg
      obtain ⟨c0, -, -⟩ := hcell i hi'
      obtain ⟨-, c1, -⟩ := hcell2 i hi'
      have hH := fun h => hhit.out i hi' h hno.out
      have hN : k < (L[i]).1 → ∀ j (hj : j < L.length), i ≤ j → k < (L[j]).1 := fun h j hj hji => by
        rcases Nat.lt_or_eq_of_le hji with h1 | h1
        · exact hno.out j hj h1
        · subst h1; exact h
      obtain ⟨nn, hnn⟩ : ∃ nn, (L[i]).1 = nn := ⟨_, rfl⟩
      obtain ⟨s, hs⟩ : ∃ s, (L[i]).2 = s := ⟨_, rfl⟩
      rw [hnn] at c0 hH hN
      rw [hs] at c1
      have hx : L[i] = (nn, s) := by rw [← hnn, ← hs]
      rw [hx] at hH
      replace hN := Lib.hid hN
      have hit : (i : Int) < (m : Int) := by omega
      have hi0 : (0 : Int) ≤ (i : Int) := by omega
      clear hcell hcell2
      replace hx := Lib.hid hx
      replace hnn := Lib.hid hnn
      replace hs := Lib.hid hs
      by_cases hk : (nn ≤ k)
      · have q0 : decide (nn ≤ k) = true := by simpa using hk
        have hh := Lib.hid (hH hk)
        obtain ⟨w6, S6, hB6, hO6⟩ := hst.out s
        have L6 := stLoad_is s hB6
        obtain ⟨C, hC⟩ : ∃ C, s.cells.toArray = C := ⟨_, rfl⟩
        rw [hC] at c1 S6 L6
        have hO6' := Lib.hid ((Only.refl (fun i => i = rb) wr).drew.trans hO6)
        have hfin' := Lib.hid (hfin.out w6 hO6'.out)
        have y1 := hkx.out w6 hO6'.out
        rw [hm.out] at y1
        replace y1 : w6.cell? ⟨xb, 1, none⟩ = some (.slice (some ⟨g, 0, none⟩) m c) := y1
        clear hH hN hst hst2 hfin hB6 hO6 hO6'
        replace hC := Lib.hid hC
        go_wp2_with fail
        go_region
        all_goals go_wp2_with fail
        all_goals exact bodyPost_ret (v := .tuple #[.int .i64 nn, .agg C, .bool true]) (by simp [results, Try.results22, ↓load_st, asAddr, L6, Result.andThen]) rfl ⟨by rw [hh.out, ← hC.out]; rfl, hfin'.out⟩
      · have q0 : decide (nn ≤ k) = false := by simpa using hk
        have hn1 := Lib.hid (hN.out (by omega))
        clear hH hN hst hst2 hfin
        go_wp2_with fail
        go_roundg (0 + i)
        case measure => omega
        case rel => exact ⟨i, rfl, by go_num, by omega, rfl, hn1⟩
    · obtain rfl : i1 = 0 := by omega
      have hmm := Lib.hid (hmiss.out (fun j hj => hno.out j hj (Nat.zero_le _)))
      obtain ⟨w6, S6, hB6, hO6⟩ := hst2.out
      have L6 := stLoad_is zeroC hB6
      have hfin' := Lib.hid (hfin.out w6 hO6)
      unfold zeroC StC.cells at S6
      obtain ⟨C, hC⟩ : ∃ C, zeroC.cells.toArray = C := ⟨_, rfl⟩
      rw [hC] at L6
      replace hC := Lib.hid hC
      clear hst hst2 hfin hB6 hO6
      go_wp2_with fail
      exact bodyPost_ret (v := .tuple #[.int .i64 0, .agg C, .bool false]) (by simp [results, Try.results22, ↓load_st, asAddr, L6, Result.andThen]) rfl ⟨by rw [hmm.out, ← hC.out]; rfl, hfin'.out⟩
end Go.Proofs.Ytfidmpkblmebeaa
