/-
  Contracts of packages show and view, and of the reference of layer 30: Row; a breakpoint's row; the row of those that stopped.
  Conditions: the table of powers of ten lies as laid ('Pow'); as each theorem states them; none beyond.
-/
import Derived.Test.YtjfpepinmbbnbaaDoorJoins
namespace Go.Proofs.YtjfpepinmbbnbaaDoor
open Go.RowKit
set_option linter.unusedVariables false
/-- words with a blank between -/
def rowS (ss : List ByteArray) : ByteArray := ⟨(Lib.join (ss.map (·.data.toList)) [32]).toArray⟩
def StrRow (w : World) (b off : Nat) (ss : List ByteArray) : Prop := ∀ j x, ss[j]? = some x → w.cell? ⟨b, off + j, none⟩ = some (.string x)
theorem rowS_one (s : ByteArray) : rowS [s] = s := by
  have : rowS [s] = ⟨s.data.toList.toArray⟩ := by simp [rowS, Lib.join, List.intercalate]
  rw [this, ba_eta]
theorem rowS_snoc (ss : List ByteArray) (x : ByteArray) (h : ss ≠ []) : rowS (ss ++ [x]) = rowS ss ++ (⟨#[32]⟩ ++ x) := by
  obtain ⟨y, ys, rfl⟩ := List.exists_cons_of_ne_nil h
  have e2 : (⟨#[32]⟩ : ByteArray) ++ x = ⟨([32] ++ x.data.toList).toArray⟩ := by
    conv => lhs; arg 2; rw [← ba_eta x]
    exact ba_append [32] _
  rw [e2]
  simp only [rowS, List.map_append, List.map_cons, List.map_nil, List.cons_append, Lib.join_cons, joinTail_snoc]
  rw [ba_append]
  simp
theorem vba_size (a b : ByteArray) : (a ++ b).size = a.size + b.size := ByteArray.size_append
theorem row_any (ss : List ByteArray) (g c : Nat) (w : World) (hc : StrRow w g 0 ss) (hg : g < w.heap.size) (hcap : ss.length ≤ c) (hN : ss.length ≤ 1000) (hl : (rowS ss).size ≤ 1000000) :
    Calls Tryd.prog 61 #[.slice (some ⟨g, 0, none⟩) ss.length c] w fun e w' => e = .returned (.string (rowS ss)) ∧ Below w.heap.size w w' := by
  have hl' : (Lib.join (ss.map (·.data.toList)) [32]).length ≤ 1000000 := by
    have e : (rowS ss).size = (Lib.join (ss.map (·.data.toList)) [32]).length := by show (Lib.join (ss.map (·.data.toList)) [32]).toArray.size = _; simp
    omega
  have hj := Tryd.strings_Join g 0 c ss ⟨#[32]⟩ w hc hg (by omega) hcap (Nat.le_trans hl' (by omega))
  replace hj := Lib.hid hj
  go_enter Tryd.func61, Tryd.ntmps61
  go_wp2_with (go_at_call 43; refine hj.out.mono ?_; rintro e w2 ⟨rfl, hb2⟩)
  all_goals go_ret
  all_goals exact ⟨rfl, hb2⟩
/-- a number's word, behind a blank -/
def numW (n : Int) : ByteArray := ⟨#[32]⟩ ++ txt n
theorem num_any30 (n : Int) (hn : -9223372036854775808 ≤ n ∧ n ≤ 9223372036854775807) (w : World) :
    Calls Tryd.prog 62 #[.int .i64 n] w fun e w' => e = .returned (.string (numW n)) ∧ Below w.heap.size w w' := by
  have ht := txt_size n hn
  have hh := Lib.hid (rtext_any n hn)
  unfold numW
  generalize txt n = s at *
  go_enter Tryd.func62, Tryd.ntmps62
  go_wp2_with (go_at_call 17; refine (hh.out _).mono ?_; rintro e w2 ⟨rfl, hb2⟩)
  all_goals go_ret
  all_goals exact ⟨rfl, hb2⟩
theorem numW_size (n : Int) (hn : -9223372036854775808 ≤ n ∧ n ≤ 9223372036854775807) : (numW n).size ≤ 22 := by
  have ht := txt_size n hn
  have e : (⟨#[32]⟩ : ByteArray).size = 1 := rfl
  rw [numW, vba_size, e]
  omega

/-! ### the row of those that stopped -/
def stopW : ByteArray := ⟨#[115, 116, 111, 112]⟩
def hitsS (xs : List Int) : ByteArray := xs.foldl (fun s n => s ++ numW n) stopW
theorem hitsS_snoc (xs : List Int) (n : Int) : hitsS (xs ++ [n]) = hitsS xs ++ numW n := by simp [hitsS]
theorem hitsS_size (xs : List Int) (hx : ∀ n ∈ xs, -9223372036854775808 ≤ n ∧ n ≤ 9223372036854775807) : (hitsS xs).size ≤ 4 + xs.length * 22 := by
  have : ∀ (ys : List Int) (s : ByteArray), (∀ n ∈ ys, -9223372036854775808 ≤ n ∧ n ≤ 9223372036854775807) → (ys.foldl (fun s n => s ++ numW n) s).size ≤ s.size + ys.length * 22 := by
    intro ys
    induction ys with
    | nil => intro s _; simp
    | cons y ys ih =>
      intro s h
      have h1 := ih (s ++ numW y) (fun n hn => h n (by simp [hn]))
      have h2 := numW_size y (h y (by simp))
      rw [vba_size] at h1
      simp only [List.foldl_cons, List.length_cons, Nat.succ_mul]
      omega
  exact this xs stopW hx
theorem hits_join (xs : List Int) (h : xs ≠ []) : hitsS xs = stopW ++ (⟨#[32]⟩ ++ joinS ⟨#[32]⟩ xs) := by
  have : ∀ (k : Nat) (ys : List Int), ys.length = k + 1 → hitsS ys = stopW ++ (⟨#[32]⟩ ++ joinS ⟨#[32]⟩ ys) := by
    intro k
    induction k with
    | zero =>
      intro ys hy
      obtain ⟨y, rfl⟩ := List.length_eq_one_iff.1 hy
      rw [joinS_one]
      rfl
    | succ k ih =>
      intro ys hy
      have hne : ys ≠ [] := by intro e; subst e; simp at hy
      have hd : ys.dropLast.length = k + 1 := by simp [hy]
      rw [← List.dropLast_concat_getLast hne, hitsS_snoc, ih _ hd, joinS_snoc _ _ _ (by intro e; rw [e] at hd; simp at hd), numW]
      simp only [ByteArray.append_assoc]
  obtain ⟨k, hk⟩ : ∃ k, xs.length = k + 1 := ⟨xs.length - 1, by have := List.length_pos_iff.2 h; omega⟩
  exact this k xs hk
theorem hits_row (xs : List Int) (h : xs ≠ []) : rowS [stopW, joinS ⟨#[32]⟩ xs] = hitsS xs := by
  rw [hits_join xs h]
  have := rowS_snoc [stopW] (joinS ⟨#[32]⟩ xs) (by simp)
  rw [rowS_one] at this
  exact this
set_option maxHeartbeats 2000000 in
theorem refhits_any (la : Option Addr) (lc : Nat) (xs : List Int) (hl : xs.length ≤ 40) (hx : ∀ n ∈ xs, -9223372036854775808 ≤ n ∧ n ≤ 9223372036854775807) (w : World)
    (hrow : 0 < xs.length → ∃ b o, la = some ⟨b, o, none⟩ ∧ b < w.heap.size ∧ IntRow w b o xs) :
    Calls Tryd.prog 30 #[.slice la xs.length lc] w fun e w' => e = .returned (.string (hitsS xs)) ∧ Below w.heap.size w w' := by
  replace hrow := Lib.hid hrow
  go_enter Tryd.func30, Tryd.ntmps30
  go_wp2_with fail
  go_loopw [3, 4] (fun v i wr => ∃ k : Nat, k ≤ xs.length ∧ i = .int .i64 (k : Int) ∧ v = .string (hitsS (xs.take k)) ∧ Below w.heap.size w wr) (fun _ i _ => xs.length - (intOf i).toNat)
  case atStart => exact ⟨0, by omega, rfl, by rw [List.take_zero]; rfl, Below.refl _ _⟩
  case round =>
    obtain ⟨k, hk, rfl, rfl, hnx⟩ := hrel
    by_cases hlt : k < xs.length
    · obtain ⟨b, o, rfl, hb, hr⟩ := hrow.out (by omega)
      have c1 : wr.cell? ⟨b, o + k, none⟩ = some (.int .i64 xs[k]) := by rw [hnx.cell hb]; exact hr k hlt
      have hxk := hx _ (List.getElem_mem hlt)
      have hsz := hitsS_size (xs.take k) (take_mem hx)
      have hsz2 := numW_size _ hxk
      rw [List.length_take] at hsz
      have hmin : min k xs.length ≤ 40 := by omega
      have hsz3 : (hitsS (xs.take k)).size ≤ 1000 := by omega
      have e1 : hitsS (xs.take (k + 1)) = hitsS (xs.take k) ++ numW xs[k] := by rw [List.take_succ_eq_append_getElem hlt, hitsS_snoc]
      have hnum := Lib.hid (num_any30 _ hxk)
      clear hr hsz hmin hx
      generalize xs[k] = z at *
      generalize hitsS (xs.take k) = J at *
      generalize numW z = T at *
      replace e1 := Lib.hid e1
      go_wp2_with fail
      refine (hnum.out _).mono ?_
      rintro e w2 ⟨rfl, hb2⟩
      go_wp2_with fail
      all_goals go_roundw
      case measure => simp [intOf]; omega
      case rel => exact ⟨k + 1, by omega, by go_num, by rw [e1.out], bl_trans hnx hb2⟩
    · have hk' : k = xs.length := by omega
      subst hk'
      rw [List.take_length]
      clear hx
      go_wp2_with fail
      all_goals go_ret
      all_goals exact ⟨rfl, hnx⟩
theorem strRow_new2 (w : World) (e : TypeId) (a b : ByteArray) : StrRow (w.alloc (.cells #[.string a, .string b] e)) w.heap.size 0 [a, b] := fun j x h => by
  have hb := (Blk.new w e [.string a, .string b]).cell (0 + j)
  rw [hb]
  match j, h with
  | 0, h => simpa using h
  | 1, h => simpa using h
theorem row2_call (w : World) (e : TypeId) (g : Nat) (hg : g = w.heap.size) (a b R : ByteArray) (hR : rowS [a, b] = R) (hl : R.size ≤ 1000000) :
    Calls Tryd.prog 61 #[.slice (some ⟨g, 0, none⟩) 2 2] (w.alloc (.cells #[.string a, .string b] e)) fun e' w' => e' = .returned (.string R) ∧ Below (w.alloc (.cells #[.string a, .string b] e)).heap.size (w.alloc (.cells #[.string a, .string b] e)) w' := by
  subst hg hR
  exact row_any [a, b] w.heap.size 2 _ (strRow_new2 w e a b) (by simp) (by simp) (by simp) hl
set_option maxHeartbeats 2000000 in
theorem hits_any (la : Option Addr) (lc : Nat) (xs : List Int) (hl : xs.length ≤ 40) (hx : ∀ n ∈ xs, -9223372036854775808 ≤ n ∧ n ≤ 9223372036854775807) (w : World) (hp : Pow w)
    (hrow : 0 < xs.length → ∃ b o, la = some ⟨b, o, none⟩ ∧ b < w.heap.size ∧ IntRow w b o xs) :
    Calls Tryd.prog 29 #[.slice la xs.length lc] w fun e w' => e = .returned (.string (hitsS xs)) ∧ Below w.heap.size w w' := by
  by_cases h0 : xs = []
  · subst h0
    go_enter Tryd.func29, Tryd.ntmps29
    go_wp2_with fail
    all_goals go_ret
    all_goals exact ⟨rfl, Below.refl _ _⟩
  · have hpos : 0 < xs.length := List.length_pos_iff.2 h0
    have hj := Lib.hid (join_any ⟨#[32]⟩ la lc xs w hp hx (by omega) (by decide) hrow)
    have hsz := hitsS_size xs hx
    have hrw := Lib.hid (fun (w : World) (e : TypeId) (g : Nat) (hg : g = w.heap.size) => row2_call w e g hg stopW (joinS ⟨#[32]⟩ xs) (hitsS xs) (hits_row xs h0) (by omega))
    generalize joinS ⟨#[32]⟩ xs = J at *
    generalize hitsS xs = H at *
    clear hrow hx hp
    replace h0 := Lib.hid h0
    go_enter Tryd.func29, Tryd.ntmps29
    go_wp2_with (first
      | (go_at_call 19; refine hj.out.mono ?_; rintro e w2 ⟨rfl, hb2⟩)
      | (go_at_call 61; refine (hrw.out _ _ _ (by simp)).mono ?_; rintro e w3 ⟨rfl, hb3⟩))
    all_goals go_ret
    all_goals exact ⟨rfl, bl_trans (bl_alloc hb2 _) hb3⟩
end Go.Proofs.YtjfpepinmbbnbaaDoor
