/-
  The walk of the law DigitJoins, of chapter 01: numbers are joined as the document says.
  Conditions: the table of powers of ten lies as laid ('Pow').
-/
import Derived.Test.YtjfpepinmbbnbaaDoorBack1
namespace Go.Proofs.YtjfpepinmbbnbaaDoor
open Go.RowKit
set_option linter.unusedVariables false
theorem ba_eta (s : ByteArray) : (⟨s.data.toList.toArray⟩ : ByteArray) = s := by apply ByteArray.ext; simp
theorem ba_empty (s : ByteArray) : (⟨#[]⟩ : ByteArray) ++ s = s := by apply ByteArray.ext; simp [ByteArray.data_append]
theorem joinS_nil (sep : ByteArray) : joinS sep [] = ⟨#[]⟩ := by simp [joinS, Lib.join, List.intercalate]
theorem joinS_one (sep : ByteArray) (x : Int) : joinS sep [x] = txt x := by
  have : joinS sep [x] = ⟨(txt x).data.toList.toArray⟩ := by simp [joinS, Lib.join, List.intercalate]
  rw [this, ba_eta]
theorem joinTail_snoc (sep : List UInt8) (l : List (List UInt8)) (x : List UInt8) : Lib.joinTail sep (l ++ [x]) = Lib.joinTail sep l ++ (sep ++ x) := by
  simp [Lib.joinTail]
theorem joinS_snoc (sep : ByteArray) (xs : List Int) (x : Int) (h : xs ≠ []) : joinS sep (xs ++ [x]) = joinS sep xs ++ sep ++ txt x := by
  obtain ⟨y, ys, rfl⟩ := List.exists_cons_of_ne_nil h
  have e1 : sep = ⟨sep.data.toList.toArray⟩ := (ba_eta sep).symm
  have e2 : txt x = ⟨(txt x).data.toList.toArray⟩ := (ba_eta _).symm
  have e3 : joinS sep (y :: ys) ++ sep = ⟨(Lib.join ((y :: ys).map fun n => (txt n).data.toList) sep.data.toList ++ sep.data.toList).toArray⟩ := by
    conv => lhs; arg 2; rw [e1]
    exact ba_append _ _
  rw [e3]
  conv => rhs; arg 2; rw [e2]
  rw [ba_append]
  simp only [joinS, List.map_append, List.map_cons, List.map_nil, List.cons_append, Lib.join_cons, joinTail_snoc, List.append_assoc]
theorem joinS_size (sep : ByteArray) (xs : List Int) (hx : ∀ n ∈ xs, -9223372036854775808 ≤ n ∧ n ≤ 9223372036854775807) (hl : xs.length ≤ 20) (hs : sep.size ≤ 9) : (joinS sep xs).size ≤ 600 := by
  have h := join_len xs sep.data.toList hx
  have hs' : sep.data.toList.length = sep.size := by rw [Array.length_toList]; rfl
  rw [hs'] at h
  have h2 : xs.length * (21 + sep.size) ≤ 20 * 30 := Nat.mul_le_mul hl (by omega)
  show (Lib.join _ _).toArray.size ≤ 600
  simp only [List.size_toArray]
  omega
theorem take_mem {xs : List Int} {k : Nat} {P : Int → Prop} (h : ∀ n ∈ xs, P n) : ∀ n ∈ xs.take k, P n := fun n hn => h n (List.mem_of_mem_take hn)
set_option maxHeartbeats 4000000 in
set_option maxRecDepth 100000 in
theorem joins_main (sep : ByteArray) (hs : sep.size ≤ 9) (la : Option Addr) (lc : Nat) (xs : List Int) (hl : xs.length ≤ 20) (hx : ∀ n ∈ xs, -9223372036854775808 ≤ n ∧ n ≤ 9223372036854775807) (W : World) (hp : Pow W)
    (hrow : 0 < xs.length → ∃ b o, la = some ⟨b, o, none⟩ ∧ b < W.heap.size ∧ IntRow W b o xs) :
    Calls Tryd.prog 5 #[.string sep, .slice la xs.length lc] W fun e w' => e = .returned (.bool true) ∧ Below W.heap.size W w' := by
  have ha := Lib.hid (fun w hb => awake01 w (hp.below (w' := w) hb))
  have hj := Lib.hid (fun (w : World) (hb : Below W.heap.size W w) => join_any sep la lc xs w (hp.below hb) hx (by omega) (by omega) (fun h0 => by
    obtain ⟨b, o, h1, h2, h3⟩ := hrow h0
    exact ⟨b, o, h1, Nat.lt_of_lt_of_le h2 hb.size, fun i hi => (hb.cell (p := ⟨b, o + i, none⟩) h2).trans (h3 i hi)⟩))
  have hj0 := Lib.hid (fun (w : World) (hb : Below W.heap.size W w) => join_any sep none 0 [] w (hp.below hb) (by simp) (by simp) (by omega) (fun h0 => by simp at h0))
  have hz0 := joinS_nil sep
  replace hj0 := hj0.out
  simp only [joinS_nil, List.length_nil] at hj0
  replace hj0 := Lib.hid hj0
  replace hrow := Lib.hid hrow
  clear hp
  go_enter Tryd.func5, Tryd.ntmps5
  go_wp2_with fail
  go_loopw [5, 6] (fun v i wr => ∃ k : Nat, k ≤ xs.length ∧ i = .int .i64 (k : Int) ∧ v = .string (joinS sep (xs.take k)) ∧ Below W.heap.size W wr) (fun _ i _ => xs.length - (intOf i).toNat)
  case atStart => exact ⟨0, by omega, rfl, by rw [List.take_zero, hz0], Below.refl _ _⟩
  case round =>
    obtain ⟨k, hk, rfl, rfl, hnx⟩ := hrel
    by_cases hlt : k < xs.length
    · obtain ⟨b, o, rfl, hb, hr⟩ := hrow.out (by omega)
      have c1 : wr.cell? ⟨b, o + k, none⟩ = some (.int .i64 xs[k]) := by rw [hnx.cell hb]; exact hr k hlt
      have hxk := hx _ (List.getElem_mem hlt)
      have hsz := joinS_size sep (xs.take k) (take_mem hx) (by simp; omega) hs
      have htz := txt_size _ hxk
      have hstep : xs.take (k + 1) = xs.take k ++ [xs[k]] := List.take_succ_eq_append_getElem hlt
      have hrt := Lib.hid (rtext_any _ hxk)
      clear hr
      by_cases h0 : k = 0
      · have q0 : decide (0 < k) = false := by simp [h0]
        have hk0 : xs.take k = [] := by rw [h0, List.take_zero]
        have e1 : joinS sep (xs.take (k + 1)) = txt xs[k] := by rw [hstep, hk0]; exact joinS_one sep _
        have e0 : joinS sep (xs.take k) = ⟨#[]⟩ := by rw [hk0]; exact hz0
        rw [e0]
        generalize xs[k] = z at *
        replace h0 := Lib.hid h0
        replace e1 := Lib.hid e1
        clear hstep e0 hsz hx hk0
        go_wp2_with fail
        refine (hrt.out _).mono ?_
        rintro e w2 ⟨rfl, hb2⟩
        go_wp2_with fail
        all_goals go_roundw
        case measure => simp [intOf]; omega
        case rel => exact ⟨k + 1, by omega, by go_num, by rw [e1.out, ba_empty], bl_trans hnx hb2⟩
      · have q0 : 0 < k := by omega
        have e1 : joinS sep (xs.take (k + 1)) = joinS sep (xs.take k) ++ sep ++ txt xs[k] := by
          rw [hstep]
          exact joinS_snoc sep _ _ (by intro hc; have := congrArg List.length hc; rw [List.length_take] at this; simp only [List.length_nil] at this; omega)
        generalize xs[k] = z at *
        generalize joinS sep (xs.take k) = J at *
        replace e1 := Lib.hid e1
        clear hstep hx
        go_wp2_with fail
        refine (hrt.out _).mono ?_
        rintro e w2 ⟨rfl, hb2⟩
        go_wp2_with fail
        all_goals go_roundw
        case measure => simp [intOf]; omega
        case rel => exact ⟨k + 1, by omega, by go_num, by rw [e1.out], bl_trans hnx hb2⟩
    · have hk' : k = xs.length := by omega
      subst hk'
      rw [List.take_length]
      generalize joinS sep xs = J at *
      have hjj := Lib.hid (hj.out wr hnx)
      clear hx hrow hj
      go_wp2_with (first
        | (go_at_call 19; (first | (with_reducible refine hjj.out.mono ?_; rintro e w2 ⟨rfl, hb2⟩; have hB := bl_trans hnx hb2) | (with_reducible refine (hj0.out _ hB).mono ?_; rintro e w3 ⟨rfl, hb3⟩; have hB3 := bl_trans hB hb3)))
        | (go_at_call 13; refine (ha.out _ hB3).mono ?_; rintro e w7 ⟨rfl, hb7⟩))
      all_goals go_ret
      all_goals exact ⟨rfl, bl_trans hB3 hb7⟩
set_option maxHeartbeats 2000000 in
theorem joins_great (sep : ByteArray) (la : Option Addr) (ll lc : Nat) (hg : 20 < ll ∨ (ll ≤ 20 ∧ 9 < sep.size)) (W : World) (hp : Pow W) :
    Calls Tryd.prog 5 #[.string sep, .slice la ll lc] W fun e w' => e = .returned (.bool true) ∧ Below W.heap.size W w' := by
  have ha := Lib.hid (awake01 W hp)
  clear hp
  rcases hg with hg | ⟨hg, hg'⟩
  all_goals go_enter Tryd.func5, Tryd.ntmps5
  all_goals go_wp2_with (go_at_call 13; refine ha.out.mono ?_; rintro e w7 ⟨rfl, hb7⟩)
  all_goals go_ret
  all_goals exact ⟨rfl, hb7⟩
theorem digitJoins_walk (W : World) (hp : Pow W) (sep : ByteArray) (hs : sep.size ≤ maxLen) (la : Option Addr) (ll lc : Nat) (xs : List Int) (h : (rSl (rInt .i64)).ok (Sub.all W) [.slice la ll lc] xs) :
    Calls Tryd.prog 5 #[.string sep, .slice la ll lc] W fun e w' => e = .returned (.bool true) ∧ Below W.heap.size W w' := by
  obtain ⟨la', lc', el, _, _, hrow⟩ := h
  obtain ⟨rfl, rfl, rfl⟩ : la = la' ∧ ll = xs.length ∧ lc = lc' := by simpa using el
  by_cases h9 : 20 < xs.length ∨ (xs.length ≤ 20 ∧ 9 < sep.size)
  · exact joins_great sep la _ lc h9 W hp
  · have hcell : ∀ (b o : Nat), RowAt (rInt .i64) (Sub.all W) b o xs → ∀ i (hi : i < xs.length), W.cell? ⟨b, o + i, none⟩ = some (.int .i64 xs[i]) ∧ (Lit.int .i64 xs[i]).wf = true := fun b o hr i hi => by
      obtain ⟨cs, ⟨h1, h1'⟩, h2⟩ := hr i hi
      subst h1
      have := h2.cell (Sub.all_in W) (j := 0) (by simp)
      exact ⟨by simpa [rInt] using this, h1'⟩
    refine joins_main sep (by omega) la lc xs (by omega) (fun n hn => ?_) W hp (fun h0 => ?_)
    · obtain ⟨i, hi, rfl⟩ := List.mem_iff_getElem.1 hn
      obtain ⟨b, o, h1, h2⟩ := hrow (by omega)
      have wn := (hcell b o h2 i hi).2
      simp [Lit.wf, IntKind.min, IntKind.max, IntKind.signed, IntKind.bits] at wn; omega
    · obtain ⟨b, o, h1, h2⟩ := hrow h0
      have h3 := fun i hi => (hcell b o h2 i hi).1
      exact ⟨b, o, h1, World.block_lt_of_cell? W ⟨b, o + 0, none⟩ (h3 0 h0), h3⟩
end Go.Proofs.YtjfpepinmbbnbaaDoor
