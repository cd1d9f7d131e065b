/-
  Comparisons that Go's library makes: rows of texts, of bytes; the files of two cases; of chapter 32.
  Conditions: as each theorem states them.
-/
import Derived.Test.YtaginadnaajleaaDoorFla
import Derived.Test.YtaginadnaajleaaDoorShelf
import Derived.Deep.LoopGhost
namespace Go.Proofs.YtaginadnaajleaaDoor
open Go.RowKit
set_option linter.unusedVariables false
set_option linter.unusedSimpArgs false
open BM (Cs)
theorem map_ba_inj : ∀ {xs ys : List (List UInt8)}, (xs.map fun t => (⟨t.toArray⟩ : ByteArray)) = (ys.map fun t => (⟨t.toArray⟩ : ByteArray)) → xs = ys
  | [], [], _ => rfl
  | [], _ :: _, h => by simp at h
  | _ :: _, [], h => by simp at h
  | x :: xs, y :: ys, h => by
    simp only [List.map_cons, List.cons.injEq] at h
    obtain ⟨h1, h2⟩ := h
    injection h1 with h1
    have h3 : x = y := by simpa using congrArg Array.toList h1
    rw [h3, map_ba_inj h2]
/-- slices.Equal of texts -/
theorem eqtexts_any (va vb : Value) (xs ys : List (List UInt8)) (w : World) (l1 : xs.length ≤ 1000000) (l2 : ys.length ≤ 1000000) (h1 : TxtsAt w va xs) (h2 : TxtsAt w vb ys) :
    Calls Tryd.prog 35 #[va, vb] w fun e w' => e = .returned (.bool (decide (xs = ys))) ∧ ∃ m, w' = w.drewN m := by
  obtain ⟨a1, c1, rfl, _, h1⟩ := h1
  obtain ⟨a2, c2, rfl, _, h2⟩ := h2
  by_cases hl : xs.length = ys.length
  · by_cases h0 : xs.length = 0
    · have e1 : xs = [] := List.eq_nil_of_length_eq_zero h0
      have e2 : ys = [] := List.eq_nil_of_length_eq_zero (by omega)
      subst e1 e2
      exact (Tryd.slices_Equal_string_empty a1 a2 c1 0 c2 w (by omega)).mono fun e w' ⟨he, hw⟩ => ⟨by rw [he]; simp, 0, by rw [hw]; rfl⟩
    · obtain ⟨b, o, rfl, _, hr⟩ := h1 (by omega)
      obtain ⟨b', o', rfl, _, hr'⟩ := h2 (by omega)
      refine (Tryd.slices_Equal_string b o xs.length c1 b' o' ys.length c2 (xs.map fun t => (⟨t.toArray⟩ : ByteArray)) (ys.map fun t => (⟨t.toArray⟩ : ByteArray)) w (by simp) (by simp) (by omega) (by omega) (fun j hj => ?_) (fun j hj => ?_)).mono fun e w' ⟨he, hw⟩ => ⟨?_, hw⟩
      · have hj' : j < xs.length := by simpa using hj
        rw [hr j hj']
        simp [hj', strV]
      · have hj' : j < ys.length := by simpa using hj
        rw [hr' j hj']
        simp [hj', strV]
      · rw [he]
        refine ret_bool ?_
        rw [decide_eq_decide, List.take_of_length_le (by simp), List.take_of_length_le (by simp)]
        exact ⟨map_ba_inj, fun h => by rw [h]⟩
  · exact (Tryd.slices_Equal_string_lens a1 a2 xs.length c1 ys.length c2 w hl).mono fun e w' ⟨he, hw⟩ => ⟨by rw [he, decide_eq_false (fun h => hl (by rw [h]))], 0, by rw [hw]; rfl⟩
theorem bytesOf_nums (xs : List UInt8) : Lib.bytesOf (xs.map fun b => (b.toNat : Int)) = xs := by
  unfold Lib.bytesOf
  rw [List.map_map]
  conv => rhs; rw [← List.map_id xs]
  refine List.map_congr_left fun b _ => ?_
  simp
/-- bytes.Equal -/
theorem eqbytes_any (va vb : Value) (xs ys : List UInt8) (w : World) (h1 : BysAt w va xs) (h2 : BysAt w vb ys) :
    Calls Tryd.prog 37 #[va, vb] w fun e w' => e = .returned (.bool (decide (xs = ys))) ∧ w' = w := by
  obtain ⟨a1, c1, rfl, z1, h1⟩ := h1
  obtain ⟨a2, c2, rfl, z2, h2⟩ := h2
  refine (Tryd.bytes_Equal_all a1 a2 xs.length c1 ys.length c2 (xs.map fun b => (b.toNat : Int)) (ys.map fun b => (b.toNat : Int)) w (by simp) (by simp) ?_ ?_).mono fun e w' ⟨he, hw⟩ => ⟨?_, hw⟩
  · intro h0
    obtain ⟨p, o, rfl, _, hr⟩ := h1 h0
    exact ⟨p, o, rfl, fun i hi => by rw [hr i hi]; simp [hi]⟩
  · intro h0
    obtain ⟨p, o, rfl, _, hr⟩ := h2 h0
    exact ⟨p, o, rfl, fun i hi => by rw [hr i hi]; simp [hi]⟩
  · rw [he, bytesOf_nums, bytesOf_nums]
    refine ret_bool ?_
    rw [Bool.eq_iff_iff]; simp
set_option maxHeartbeats 2000000 in
/-- two files -/
theorem same1_any (n1 n2 b1 b2 : List UInt8) (u1 u2 : Value) (w : World) (h1 : BysAt w u1 b1) (h2 : BysAt w u2 b2) :
    Calls Tryd.prog 36 #[.agg #[strV n1, u1], .agg #[strV n2, u2]] w fun e w' => e = .returned (.bool (decide (n1 = n2 ∧ b1 = b2))) ∧ Below w.heap.size w w' := by
  obtain ⟨a1, c1, rfl, z1, h1⟩ := h1
  obtain ⟨a2, c2, rfl, z2, h2⟩ := h2
  have hq := str_ne n1 n2
  have hc := Lib.hid (fun w' (hb : Below w.heap.size w w') => eqbytes_any (.slice a1 b1.length c1) (.slice a2 b2.length c2) b1 b2 w' ⟨a1, c1, rfl, z1, h1.below hb⟩ ⟨a2, c2, rfl, z2, h2.below hb⟩)
  have hb0 := Lib.hid (fun (o1 o2 : Obj) => bl_alloc (bl_alloc (Below.refl w.heap.size w) o1) o2)
  by_cases hn : n1 = n2
  · rw [decide_eq_true hn] at hq
    unfold strV
    generalize (⟨n1.toArray⟩ : ByteArray) = x at *
    generalize (⟨n2.toArray⟩ : ByteArray) = y at *
    rw [beq_toListBytes] at hq
    have hR : decide (n1 = n2 ∧ b1 = b2) = decide (b1 = b2) := by simp [hn]
    rw [hR]
    obtain ⟨D, hD⟩ : ∃ D, decide (b1 = b2) = D := ⟨_, rfl⟩
    rw [hD] at hc ⊢
    replace hD := Lib.hid hD
    clear hR h1 h2
    go_enter Tryd.func36, Tryd.ntmps36
    go_wp2_with (go_at_call 37; refine (hc.out _ (hb0.out _ _)).mono ?_; rintro e w2 ⟨rfl, rfl⟩)
    all_goals go_ret
    all_goals exact ⟨rfl, hb0.out _ _⟩
  · rw [decide_eq_false hn] at hq
    unfold strV
    generalize (⟨n1.toArray⟩ : ByteArray) = x at *
    generalize (⟨n2.toArray⟩ : ByteArray) = y at *
    rw [beq_toListBytes] at hq
    have hR : decide (n1 = n2 ∧ b1 = b2) = false := by simp [hn]
    rw [hR]
    clear hR h1 h2
    go_enter Tryd.func36, Tryd.ntmps36
    go_wp2_with fail
    all_goals go_ret
    all_goals exact ⟨rfl, hb0.out _ _⟩
set_option maxHeartbeats 2000000 in
/-- slices.EqualFunc of files -/
theorem eqfiles_any (va vb : Value) (xs ys : List (List UInt8 × List UInt8)) (w : World) (l1 : xs.length ≤ 1000000) (l2 : ys.length ≤ 1000000) (h1 : FsAt w va xs) (h2 : FsAt w vb ys) :
    Calls Tryd.prog 38 #[va, vb, .func (.func 36) #[] #[]] w fun e w' => e = .returned (.bool (decide (xs = ys))) ∧ Below w.heap.size w w' := by
  obtain ⟨a1, c1, rfl, _, h1⟩ := h1
  obtain ⟨a2, c2, rfl, _, h2⟩ := h2
  replace h1 : FilAt w a1 xs := h1
  replace h2 : FilAt w a2 ys := h2
  by_cases hl : xs.length = ys.length
  · have hret : ∀ b, decide (xs = ys) = b → (Ending.returned (.bool b)) = .returned (.bool (decide (xs = ys))) := fun b e => by rw [e]
    generalize hn : xs.length = n at *
    have hy : n = ys.length := hl
    clear hl
    rw [← hy]
    replace h1 := Lib.hid h1
    replace h2 := Lib.hid h2
    replace hn := Lib.hid hn
    replace hy := Lib.hid hy
    replace hret := Lib.hid hret
    clear l2
    have hq : ((n : Int) != n) = false := by simp
    go_enter Tryd.func38, Tryd.ntmps38
    go_wp2_with fail
    go_loopg [17] n (fun gh i wr => ∃ k : Nat, gh = n - k ∧ i = .int .i64 (k : Int) ∧ k ≤ n ∧ Hid (xs.take k = ys.take k) ∧ Hid (Below w.heap.size w wr))
    case atStart => exact ⟨0, rfl, rfl, by omega, Lib.hid (by simp), Lib.hid (Below.refl _ _)⟩
    case round =>
      obtain ⟨k, rfl, rfl, hk, ht, hb⟩ := hrel
      by_cases hlt : k < n
      · have k1 : k < xs.length := by rw [hn.out]; exact hlt
        have k2 : k < ys.length := by rw [← hy.out]; exact hlt
        obtain ⟨p, o, rfl, hp, hr⟩ := h1.out (by omega)
        obtain ⟨p', o', rfl, hp', hr'⟩ := h2.out (by omega)
        obtain ⟨e1, u1, e2, hu1⟩ := hr k k1
        obtain ⟨e3, u2, e4, hu2⟩ := hr' k k2
        clear hr hr'
        have g1 : wr.cell? ⟨p, o + k * 2, none⟩ = some (strV xs[k].1) := (hb.out.cell (p := ⟨p, o + k * 2, none⟩) hp).trans e1
        have g2 : wr.cell? ⟨p, o + k * 2 + 1, none⟩ = some u1 := (hb.out.cell (p := ⟨p, o + k * 2 + 1, none⟩) hp).trans e2
        have g3 : wr.cell? ⟨p', o' + k * 2, none⟩ = some (strV ys[k].1) := (hb.out.cell (p := ⟨p', o' + k * 2, none⟩) hp').trans e3
        have g4 : wr.cell? ⟨p', o' + k * 2 + 1, none⟩ = some u2 := (hb.out.cell (p := ⟨p', o' + k * 2 + 1, none⟩) hp').trans e4
        have p1 : p < wr.heap.size := Nat.lt_of_lt_of_le hp hb.out.size
        have p2 : p' < wr.heap.size := Nat.lt_of_lt_of_le hp' hb.out.size
        have hib : (k : Int) < (n : Int) := by omega
        have hcc := fun w' (hb2 : Below wr.heap.size wr w') => same1_any xs[k].1 ys[k].1 xs[k].2 ys[k].2 u1 u2 w' (hu1.below (bl_trans hb.out hb2)) (hu2.below (bl_trans hb.out hb2))
        have hD : decide (xs[k].1 = ys[k].1 ∧ xs[k].2 = ys[k].2) = decide (xs[k] = ys[k]) := by rw [decide_eq_decide]; exact ⟨fun h => Prod.ext h.1 h.2, fun h => by rw [h]; exact ⟨rfl, rfl⟩⟩
        rw [hD] at hcc
        clear hD e1 e2 e3 e4
        obtain ⟨b1, d1, rfl, _, _⟩ := hu1
        obtain ⟨b2, d2, rfl, _, _⟩ := hu2
        unfold strV at g1 g3 hcc
        by_cases hc : xs[k] = ys[k]
        · have hte := Lib.hid (take_eq k1 k2 ht.out hc)
          rw [decide_eq_true hc] at hcc
          replace hcc := Lib.hid hcc
          clear hc ht
          generalize xs[k].2.length = n1 at *
          generalize ys[k].2.length = n2 at *
          generalize (⟨xs[k].1.toArray⟩ : ByteArray) = x at *
          generalize (⟨ys[k].1.toArray⟩ : ByteArray) = y at *
          go_wp2_with (go_at_call 36; refine (hcc.out _ (bl_alloc (bl_alloc (Below.refl _ _) _) _)).mono ?_; rintro e w2 ⟨rfl, hb2⟩; replace hb2 := Lib.hid hb2)
          all_goals go_roundg (n - (k + 1))
          case measure => omega
          case rel => exact ⟨k + 1, rfl, by go_num, by omega, hte, Lib.hid (bl_trans (bl_alloc (bl_alloc hb.out _) _) hb2.out)⟩
        · have hte := Lib.hid (take_ne k1 k2 hc)
          rw [decide_eq_false hc] at hcc
          replace hcc := Lib.hid hcc
          clear hc ht
          generalize xs[k].2.length = n1 at *
          generalize ys[k].2.length = n2 at *
          generalize (⟨xs[k].1.toArray⟩ : ByteArray) = x at *
          generalize (⟨ys[k].1.toArray⟩ : ByteArray) = y at *
          go_wp2_with (go_at_call 36; refine (hcc.out _ (bl_alloc (bl_alloc (Below.refl _ _) _) _)).mono ?_; rintro e w2 ⟨rfl, hb2⟩; replace hb2 := Lib.hid hb2)
          all_goals go_ret
          all_goals exact ⟨hret.out _ (decide_eq_false hte.out), bl_trans (bl_alloc (bl_alloc hb.out _) _) hb2.out⟩
      · obtain rfl : k = n := by omega
        have hte : xs = ys := by
          have := ht.out
          rwa [List.take_of_length_le (by rw [hn.out]; exact Nat.le_refl _), List.take_of_length_le (by rw [← hy.out]; exact Nat.le_refl _)] at this
        replace hte := Lib.hid hte
        clear ht
        go_wp2_with fail
        go_ret
        exact ⟨hret.out _ (decide_eq_true hte.out), hb.out⟩
  · have hne : xs ≠ ys := fun e => hl (by rw [e])
    have hq : ((xs.length : Int) != ys.length) = true := by simp; omega
    replace hne := Lib.hid (ret_bool (decide_eq_false hne)).symm
    go_enter Tryd.func38, Tryd.ntmps38
    go_wp2_with fail
    all_goals go_ret
    all_goals exact ⟨hne.out, Below.refl _ _⟩
end Go.Proofs.YtaginadnaajleaaDoor
