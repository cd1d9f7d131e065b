/-
  What a condition's function holds of: numbers, texts; of chapter 27.
  Conditions: as each theorem states them.
-/
import Derived.Test.YtlaafamodaogmaaCondH
namespace Go.Proofs.Ytlaafamodaogmaa
open Go.RowKit
set_option linter.unusedVariables false
set_option linter.unusedSimpArgs false
open CM (Sv)
theorem eqs_false {x : List UInt8} {k : List UInt8} (h : ¬ x = k) : (x == k) = false := by simpa using h
set_option maxHeartbeats 4000000 in
set_option maxRecDepth 100000 in
theorem HoldsIs.numCmp {g q r t : Nat} {f : Sv → Int} {k : FuncId} {n : Int} {sg : List UInt8} {W : World} (hq : W.cell? ⟨q, 0, none⟩ = some (fnV k)) (hl : q < W.heap.size) (hn : g < q) (G : GetN k f) (hE : Ent k)
    (hr : W.cell? ⟨r, 0, none⟩ = some (.int .i64 n)) (hl' : r < W.heap.size) (hn' : g < r) (ht : W.cell? ⟨t, 0, none⟩ = some (strV sg)) (hl2 : t < W.heap.size) (hn2 : g < t) :
    HoldsIs g (fun _ b => CM.signOf sg (f b) n) (.func (.func 101) #[] #[.pointer (some ⟨q, 0, none⟩), .pointer (some ⟨r, 0, none⟩), .pointer (some ⟨t, 0, none⟩)]) W := by
  refine ⟨_, _, rfl, ent_at (by kernel_rfl), fun W' ho b1 b2 s1 s2 h1 h2 hm => ?_⟩
  have k0 := (olyh_cell (j := 0) ho hl hn).trans hq
  have k1 := (olyh_cell (j := 0) ho hl' hn').trans hr
  have k2 := (olyh_cell (j := 0) ho hl2 hn2).trans ht
  unfold Ent at hE
  unfold fnV at k0
  have hcc := Lib.hid (G W' b2 s2 h2)
  clear h1 h2 hm ho hq hr ht hl hl' hl2 hn hn' hn2
  change Calls Try.prog _ #[.pointer (some ⟨b1, 0, none⟩), .pointer (some ⟨b2, 0, none⟩), .pointer (some ⟨q, 0, none⟩), .pointer (some ⟨r, 0, none⟩), .pointer (some ⟨t, 0, none⟩)] _ (fun e w' => e = .returned (.bool (CM.signOf sg (f s2) n)) ∧ ∃ q, w' = W'.drewN q)
  generalize f s2 = x at *
  obtain ⟨R, hR⟩ : ∃ R, CM.signOf sg x n = R := ⟨_, rfl⟩
  rw [hR]
  unfold CM.signOf at hR
  rcases Int.lt_trichotomy x n with h | h | h
  · have e1 : (x == n) = false := by simp; omega
    have e2 : decide (x < n) = true := by simpa using h
    have e3 : decide (n < x) = false := by simp; omega
    clear h
    rw [e1, e2, e3] at hR
    simp only [Bool.false_and, Bool.true_and, Bool.false_or, Bool.or_false] at hR
    replace hR := Lib.hid hR
    go_enter Try.func101, Try.ntmps101
    go_wp2_with ((with_reducible refine hcc.out.mono ?_); rintro e w2 ⟨rfl, rfl⟩)
    all_goals go_ret
    all_goals (refine ⟨?_, 0, rfl⟩)
    all_goals (rw [← hR.out]; go_light)
    all_goals simp_all
  · have e1 : (x == n) = true := by simpa using h
    have e2 : decide (x < n) = false := by simp; omega
    have e3 : decide (n < x) = false := by simp; omega
    clear h
    rw [e1, e2, e3] at hR
    simp only [Bool.false_and, Bool.true_and, Bool.false_or, Bool.or_false] at hR
    replace hR := Lib.hid hR
    go_enter Try.func101, Try.ntmps101
    go_wp2_with ((with_reducible refine hcc.out.mono ?_); rintro e w2 ⟨rfl, rfl⟩)
    all_goals go_ret
    all_goals (refine ⟨?_, 0, rfl⟩)
    all_goals (rw [← hR.out]; go_light)
    all_goals simp_all
  · have e1 : (x == n) = false := by simp; omega
    have e2 : decide (x < n) = false := by simp; omega
    have e3 : decide (n < x) = true := by simpa using h
    clear h
    rw [e1, e2, e3] at hR
    simp only [Bool.false_and, Bool.true_and, Bool.false_or, Bool.or_false] at hR
    replace hR := Lib.hid hR
    go_enter Try.func101, Try.ntmps101
    go_wp2_with ((with_reducible refine hcc.out.mono ?_); rintro e w2 ⟨rfl, rfl⟩)
    all_goals go_ret
    all_goals (refine ⟨?_, 0, rfl⟩)
    all_goals (rw [← hR.out]; go_light)
    all_goals simp_all
theorem bytesOf_map (xs : List UInt8) : Lib.bytesOf (xs.map fun x => (x.toNat : Int)) = xs := by
  unfold Lib.bytesOf
  rw [List.map_map]
  conv => rhs; rw [← List.map_id xs]
  exact List.map_congr_left fun x _ => by simp
theorem strOfB (xs : List UInt8) : strOfNums (xs.map fun x => (x.toNat : Int)) = ⟨xs.toArray⟩ := by
  unfold strOfNums
  congr 2
  rw [List.map_map]
  conv => rhs; rw [← List.map_id xs]
  exact List.map_congr_left fun x _ => by simp
/-- 'string(b)' -/
theorem conv_str {w : World} {a : Option Addr} {xs : List UInt8} (h : BytesAt w a xs) (c : Nat) : (convert 22 9 (.slice a xs.length c)).run Try.prog w = .ok (.string ⟨xs.toArray⟩) w := by
  rcases Nat.eq_zero_or_pos xs.length with h0 | h0
  · obtain rfl : xs = [] := List.eq_nil_of_length_eq_zero h0
    rw [run_convert_bytes_string w 22 9 5 _ _ c Try.underlying22 Try.underlying5 Try.underlying9]
    cases a <;> simp [Conv.bytesToString, loadCells]
    all_goals rfl
  · obtain ⟨b, o, rfl, l, r⟩ := h h0
    rw [run_convert_bytes_arg (P := Try.prog) w 22 5 Try.underlying22 Try.underlying5 b o xs.length c (xs.map fun x => (x.toNat : Int)) (by simp) (fun i hi => by rw [r i hi]; simp [List.getD, hi]) 9 Try.underlying9, strOfB]
theorem equal_at {w : World} {a b : Option Addr} {xs ys : List UInt8} (hx : BytesAt w a xs) (hy : BytesAt w b ys) (c d : Nat) :
    Calls Try.prog 103 #[.slice a xs.length c, .slice b ys.length d] w fun e w' => e = .returned (.bool (xs == ys)) ∧ w' = w := by
  have h := Try.bytes_Equal_strs _ _ _ _ w (conv_str hx c) (conv_str hy d)
  rw [ba_list, ba_list] at h
  exact h
set_option maxHeartbeats 4000000 in
set_option maxRecDepth 100000 in
theorem indexByte_empty (a : Option Addr) (c : Nat) (cv : Int) (w : World) : Calls Try.prog 110 #[.slice a 0 c, .int .u8 cv] w fun e w' => e = .returned (.int .i64 (-1)) ∧ w = w' := by
  have hx : (Extern.BytealgIndexByte.indexByte #[.slice a 0 c, .int .u8 cv]).run Try.prog w = .ok (.int .i64 (-1)) w := by
    cases a with
    | none => exact Lib.run_indexByteNil w 0 c cv
    | some a => exact Lib.run_indexByteAt w a 0 c [] rfl (fun i h => absurd h (by omega)) cv
  go_enter Try.func110, Try.ntmps110
  go_wp2
  rw [run_callFunc_extern Try.func114 (by kernel_rfl) (by kernel_rfl) (by kernel_rfl) (e := Extern.BytealgIndexByte.indexByte) (by kernel_rfl), hx]
  simp only [Result.andThen]
  rw [Oper.upon_value]
  go_wp2
  go_ret
  exact ⟨rfl, rfl⟩
set_option maxHeartbeats 4000000 in
set_option maxRecDepth 100000 in
theorem index_empty (a : Option Addr) (c b2 o2 d : Nat) (cv : Int) (w : World) (hc : w.cell? ⟨b2, o2, none⟩ = some (.int .u8 cv)) : Calls Try.prog 109 #[.slice a 0 c, .slice (some ⟨b2, o2, none⟩) 1 d] w fun e w' => e = .returned (.int .i64 (-1)) ∧ w = w' := by
  have hi := Lib.hid (indexByte_empty a c cv w)
  go_enter Try.func109, Try.ntmps109
  go_wp2_with (go_at_call 110; refine hi.out.mono ?_; rintro e w2 ⟨rfl, rfl⟩)
  go_ret
  exact ⟨rfl, rfl⟩
set_option maxHeartbeats 4000000 in
set_option maxRecDepth 100000 in
theorem contains_empty (a : Option Addr) (c b2 o2 d : Nat) (cv : Int) (w : World) (hc : w.cell? ⟨b2, o2, none⟩ = some (.int .u8 cv)) : Calls Try.prog 105 #[.slice a 0 c, .slice (some ⟨b2, o2, none⟩) 1 d] w fun e w' => e = .returned (.bool false) ∧ w = w' := by
  have hi := Lib.hid (index_empty a c b2 o2 d cv w hc)
  clear hc
  go_enter Try.func105, Try.ntmps105
  go_wp2_with (go_at_call 109; refine hi.out.mono ?_; rintro e w2 ⟨rfl, rfl⟩)
  go_ret
  exact ⟨rfl, rfl⟩
theorem getD_nums (l : List UInt8) (i : Nat) (h : i < l.length) : (l.map fun x => (x.toNat : Int)).getD i 0 = (l[i].toNat : Int) := by simp [List.getD, h]
theorem has_nil (xs : List UInt8) : CM.hasS xs [] = true := by
  unfold CM.hasS
  cases xs <;> simp [Lib.index]
theorem nil_has {y : UInt8} {ys : List UInt8} : CM.hasS [] (y :: ys) = false := by
  unfold CM.hasS
  simp [Lib.index]
theorem contains_at {w : World} {a b : Option Addr} {xs ys : List UInt8} (hx : BytesAt w a xs) (hy : BytesAt w b ys) (c d : Nat) (hc : xs.length ≤ c) (hl : xs.length ≤ 100000) (hl2 : ys.length ≤ 100000) (hm : MxAt w) :
    Calls Try.prog 105 #[.slice a xs.length c, .slice b ys.length d] w fun e w' => e = .returned (.bool (CM.hasS xs ys)) ∧ ∃ q, w' = w.drewN q := by
  cases ys with
  | nil =>
    rw [has_nil]
    exact (Try.bytes_Contains_none a b xs.length c d w).mono fun e w' he => ⟨he.1, 0, he.2⟩
  | cons y ys =>
    obtain ⟨b2, o2, rfl, hb2, hr2⟩ := hy (by simp)
    cases xs with
    | nil =>
      rw [nil_has]
      cases ys with
      | nil =>
        have h0 := hr2 0 (by simp)
        exact (contains_empty a c b2 o2 d _ w h0).mono fun e w' he => ⟨he.1, 0, he.2.symm⟩
      | cons z ys => exact (Try.bytes_Contains_longer a (some ⟨b2, o2, none⟩) 0 c _ d w (by simp) (by simp) (by simp only [List.length_cons] at hl2 ⊢; omega)).mono fun e w' he => ⟨he.1, 0, he.2⟩
    | cons x xs =>
      obtain ⟨b1, o1, rfl, hb1, hr1⟩ := hx (by simp)
      obtain ⟨_, m, hm⟩ := hm
      have ha : ∀ (bb oo i : Nat), (⟨bb, oo, none⟩ : Addr).add i = ⟨bb, oo + i, none⟩ := Lib.add_plain'
      have hu : ∀ (l : List UInt8), ∀ z ∈ l.map fun x => (x.toNat : Int), 0 ≤ z ∧ z < 256 := fun l z hz => by
        obtain ⟨q, _, rfl⟩ := List.mem_map.1 hz
        have := q.toNat_lt
        omega
      have h := Try.bytes_Contains_at ⟨b1, o1, none⟩ ⟨b2, o2, none⟩ (x :: xs).length c (y :: ys).length d ((x :: xs).map fun x => (x.toNat : Int)) ((y :: ys).map fun x => (x.toNat : Int)) m w (by simp) (by simp) (hu _) (hu _)
        (fun i hi => by rw [ha, hr1 i hi, getD_nums _ i hi]) (fun i hi => by rw [ha, hr2 i hi, getD_nums _ i hi]) hc (by omega) (by omega) hm
      rw [bytesOf_map, bytesOf_map] at h
      exact h
set_option maxHeartbeats 4000000 in
set_option maxRecDepth 100000 in
theorem HoldsIs.txtCh {g q : Nat} {f : Sv → List UInt8} {k : FuncId} {W : World} (hq : W.cell? ⟨q, 0, none⟩ = some (fnV k)) (hl : q < W.heap.size) (hn : g < q) (G : GetU k f) (hE : Ent k) :
    HoldsIs g (fun a b => !(f a == f b)) (.func (.func 102) #[] #[.pointer (some ⟨q, 0, none⟩)]) W := by
  refine ⟨_, _, rfl, ent_at (by kernel_rfl), fun W' ho b1 b2 s1 s2 h1 h2 hm => ?_⟩
  have k0 := (olyh_cell (j := 0) ho hl hn).trans hq
  unfold Ent at hE
  unfold fnV at k0
  obtain ⟨a1, c1, _, x1, l1, hcc⟩ := G W' b1 s1 h1
  obtain ⟨a2, c2, _, x2, l2, hcd⟩ := G W' b2 s2 h2
  have heq : ∀ n, Calls Try.prog 103 #[.slice a1 (f s1).length c1, .slice a2 (f s2).length c2] (W'.drewN n) fun e w' => e = .returned (.bool (f s1 == f s2)) ∧ ∃ m, w' = (W'.drewN n).drewN m := fun n => (equal_at (x1.below (bl_drewN (Below.refl _ _) n)) (x2.below (bl_drewN (Below.refl _ _) n)) c1 c2).mono fun e w' he => ⟨he.1, 0, he.2⟩
  replace hcc := Lib.hid hcc
  replace hcd := Lib.hid hcd
  replace heq := Lib.hid heq
  clear h1 h2 hm ho hq x1 x2 l1 l2
  change Calls Try.prog _ #[.pointer (some ⟨b1, 0, none⟩), .pointer (some ⟨b2, 0, none⟩), .pointer (some ⟨q, 0, none⟩)] _ (fun e w' => e = .returned (.bool (!(f s1 == f s2))) ∧ ∃ q, w' = W'.drewN q)
  generalize (f s1 == f s2) = B at *
  generalize (f s1).length = n1 at *
  generalize (f s2).length = n2 at *
  go_enter Try.func102, Try.ntmps102
  go_wp2_with (go_quiet ((first | (with_reducible exact quiet_n hcc.out) | (with_reducible exact quiet_n hcd.out) | (go_at_call 103; exact quiet_n heq.out))))
  go_ret
  exact ⟨rfl, _, rfl⟩
set_option maxHeartbeats 4000000 in
set_option maxRecDepth 100000 in
theorem HoldsIs.txtIs {g q r bk cp : Nat} {f : Sv → List UInt8} {k : FuncId} {ys : List UInt8} {W : World} (hq : W.cell? ⟨q, 0, none⟩ = some (fnV k)) (hl : q < W.heap.size) (hn : g < q) (G : GetU k f) (hE : Ent k)
    (hr : W.cell? ⟨r, 0, none⟩ = some (.slice (some ⟨bk, 0, none⟩) ys.length cp)) (hl' : r < W.heap.size) (hn' : g < r) (hb : ByteRow W bk 0 ys) (hlb : bk < W.heap.size) (hnb : g < bk) :
    HoldsIs g (fun _ b => f b == ys) (.func (.func 106) #[] #[.pointer (some ⟨q, 0, none⟩), .pointer (some ⟨r, 0, none⟩)]) W := by
  refine ⟨_, _, rfl, ent_at (by kernel_rfl), fun W' ho b1 b2 s1 s2 h1 h2 hm => ?_⟩
  have k0 := (olyh_cell (j := 0) ho hl hn).trans hq
  have k1 := (olyh_cell (j := 0) ho hl' hn').trans hr
  have hB : BytesAt W' (some ⟨bk, 0, none⟩) ys := fun _ => ⟨bk, 0, rfl, Nat.lt_of_lt_of_le hlb ho.size, fun i hi => (olyh_cell ho hlb hnb).trans (hb i hi)⟩
  unfold Ent at hE
  unfold fnV at k0
  obtain ⟨a2, c2, _, x2, l2, hcd⟩ := G W' b2 s2 h2
  have heq : ∀ n, Calls Try.prog 103 #[.slice a2 (f s2).length c2, .slice (some ⟨bk, 0, none⟩) ys.length cp] (W'.drewN n) fun e w' => e = .returned (.bool (f s2 == ys)) ∧ ∃ m, w' = (W'.drewN n).drewN m := fun n => (equal_at (x2.below (bl_drewN (Below.refl _ _) n)) (hB.below (bl_drewN (Below.refl _ _) n)) c2 cp).mono fun e w' he => ⟨he.1, 0, he.2⟩
  replace hcd := Lib.hid hcd
  replace heq := Lib.hid heq
  clear h1 h2 hm ho hq hr hb hB x2 l2
  change Calls Try.prog _ #[.pointer (some ⟨b1, 0, none⟩), .pointer (some ⟨b2, 0, none⟩), .pointer (some ⟨q, 0, none⟩), .pointer (some ⟨r, 0, none⟩)] _ (fun e w' => e = .returned (.bool (f s2 == ys)) ∧ ∃ q, w' = W'.drewN q)
  generalize (f s2 == ys) = B at *
  generalize (f s2).length = n2 at *
  generalize ys.length = n1 at *
  go_enter Try.func106, Try.ntmps106
  go_wp2_with (go_quiet ((first | (with_reducible exact quiet_n hcd.out) | (go_at_call 103; exact quiet_n heq.out))))
  go_ret
  exact ⟨rfl, _, rfl⟩
set_option maxHeartbeats 4000000 in
set_option maxRecDepth 100000 in
theorem HoldsIs.txtHas {g q r bk cp : Nat} {f : Sv → List UInt8} {k : FuncId} {ys : List UInt8} {W : World} (hq : W.cell? ⟨q, 0, none⟩ = some (fnV k)) (hl : q < W.heap.size) (hn : g < q) (G : GetU k f) (hE : Ent k)
    (hr : W.cell? ⟨r, 0, none⟩ = some (.slice (some ⟨bk, 0, none⟩) ys.length cp)) (hl' : r < W.heap.size) (hn' : g < r) (hb : ByteRow W bk 0 ys) (hlb : bk < W.heap.size) (hnb : g < bk) (hys : ys.length ≤ 100000) :
    HoldsIs g (fun _ b => CM.hasS (f b) ys) (.func (.func 104) #[] #[.pointer (some ⟨q, 0, none⟩), .pointer (some ⟨r, 0, none⟩)]) W := by
  refine ⟨_, _, rfl, ent_at (by kernel_rfl), fun W' ho b1 b2 s1 s2 h1 h2 hm => ?_⟩
  have k0 := (olyh_cell (j := 0) ho hl hn).trans hq
  have k1 := (olyh_cell (j := 0) ho hl' hn').trans hr
  have hB : BytesAt W' (some ⟨bk, 0, none⟩) ys := fun _ => ⟨bk, 0, rfl, Nat.lt_of_lt_of_le hlb ho.size, fun i hi => (olyh_cell ho hlb hnb).trans (hb i hi)⟩
  unfold Ent at hE
  unfold fnV at k0
  obtain ⟨a2, c2, hc2, x2, l2, hcd⟩ := G W' b2 s2 h2
  have heq : ∀ n, Calls Try.prog 105 #[.slice a2 (f s2).length c2, .slice (some ⟨bk, 0, none⟩) ys.length cp] (W'.drewN n) fun e w' => e = .returned (.bool (CM.hasS (f s2) ys)) ∧ ∃ m, w' = (W'.drewN n).drewN m := fun n => contains_at (x2.below (bl_drewN (Below.refl _ _) n)) (hB.below (bl_drewN (Below.refl _ _) n)) c2 cp hc2 l2 hys (hm.below (bl_drewN (Below.refl _ _) n))
  replace hcd := Lib.hid hcd
  replace heq := Lib.hid heq
  clear h1 h2 hm ho hq hr hb hB x2 l2
  change Calls Try.prog _ #[.pointer (some ⟨b1, 0, none⟩), .pointer (some ⟨b2, 0, none⟩), .pointer (some ⟨q, 0, none⟩), .pointer (some ⟨r, 0, none⟩)] _ (fun e w' => e = .returned (.bool (CM.hasS (f s2) ys)) ∧ ∃ q, w' = W'.drewN q)
  generalize CM.hasS (f s2) ys = B at *
  generalize (f s2).length = n2 at *
  generalize ys.length = n1 at *
  go_enter Try.func104, Try.ntmps104
  go_wp2_with (go_quiet ((first | (with_reducible exact quiet_n hcd.out) | (go_at_call 105; exact quiet_n heq.out))))
  go_ret
  exact ⟨rfl, _, rfl⟩
end Go.Proofs.Ytlaafamodaogmaa
