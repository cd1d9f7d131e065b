/-
  Contracts of Text and Join, of package digit: the number's decimal text; those texts with the separator between. Both lay memory of their own alone.
  Conditions: the table of powers of ten lies as laid; as each theorem states them; none beyond.
-/
import Derived.Test.YtepdfkgadigafaaGreatDoorBase
import Derived.Test.YtepdfkgadigafaaGreatDoorShelf
import Derived.Deep.Light
import Derived.Lib.ItoaLen
import Derived.Maps.AppendAt
import Derived.OwnWalk
namespace Go.Proofs.YtepdfkgadigafaaGreatDoor
open Go.RowKit Go.Sort
set_option linter.unusedVariables false

def Pow (w : World) : Prop := Lib.TabIs Tryz.prog w "internal/strconv.uint64pow10" .u64 Lib.pow10Tab
theorem pow_named : Tryz.prog.globalNamed "internal/strconv.uint64pow10" = some 5 := by kernel_rfl
theorem Pow.below {w w' : World} (h : Pow w) (hb : Below w.heap.size w w') : Pow w' := by
  unfold Pow Lib.TabIs World.var? at h ⊢
  rw [pow_named] at h ⊢
  simp only [Option.bind_some] at h ⊢
  have hlt : 5 < w.heap.size := by
    rcases Nat.lt_or_ge 5 w.heap.size with h' | h'
    · exact h'
    · rw [Array.getElem?_eq_none h'] at h; cases h
  rw [hb.block _ hlt]
  exact h
theorem grow_below (w : World) (k : Nat) (os : Array Obj) : Below w.heap.size w (Sort.grow (w.drewN k) os) :=
  ⟨rfl, rfl, rfl, by show w.heap.size ≤ (w.heap ++ os).size; rw [Array.size_append]; omega, fun _ hj => Sort.heap_grow_old (w.drewN k) os hj⟩
def txt (n : Int) : ByteArray := ⟨(Lib.itoa n).toArray⟩
theorem text_any (n : Int) (hn : -9223372036854775808 ≤ n ∧ n ≤ 9223372036854775807) (w : World) (hp : Pow w) :
    Calls Tryz.prog 26 #[.int .i64 n] w fun e w' => e = .returned (.string (txt n)) ∧ Below w.heap.size w w' := by
  go_enter Tryz.func26, Tryz.ntmps26
  go_wp2_with (go_at_call 54; refine (Tryz.strconv_Itoa n hn.1 hn.2 _ hp).mono ?_; rintro e w' ⟨rfl, k, os, rfl⟩)
  all_goals go_ret
  all_goals exact ⟨rfl, grow_below _ _ _⟩

theorem info9_ : (Tryz.prog.info? 9).map (fun i => (i.zero, i.size, i.bytes)) = some (some (.string ⟨#[]⟩), 1, 16) := by kernel_rfl
def IntRow (w : World) (b off : Nat) (xs : List Int) : Prop := ∀ i (h : i < xs.length), w.cell? ⟨b, off + i, none⟩ = some (.int .i64 xs[i])
def joinS (sep : ByteArray) (xs : List Int) : ByteArray := ⟨(Lib.join (xs.map fun n => (txt n).data.toList) sep.data.toList).toArray⟩
theorem join_len (xs : List Int) (sep : List UInt8) (hx : ∀ n ∈ xs, -9223372036854775808 ≤ n ∧ n ≤ 9223372036854775807) : (Lib.join (xs.map fun n => (txt n).data.toList) sep).length ≤ xs.length * (21 + sep.length) := by
  have h1 : ∀ (l : List Int), (∀ n ∈ l, -9223372036854775808 ≤ n ∧ n ≤ 9223372036854775807) → (Lib.joinTail sep (l.map fun n => (txt n).data.toList)).length ≤ l.length * (21 + sep.length) := by
    intro l
    induction l with
    | nil => intro _; simp [Lib.joinTail]
    | cons n l ih =>
      intro h
      have h2 := ih (fun m hm => h m (by simp [hm]))
      have h3 := Lib.itoa_length_le n (h n (by simp)).1 (h n (by simp)).2
      simp only [Lib.joinTail, List.map_cons, List.flatten_cons, List.length_append, List.length_cons, Nat.succ_mul] at h2 ⊢
      have h4 : (txt n).data.toList.length = (Lib.itoa n).length := by simp [txt]
      omega
  cases xs with
  | nil => simp [Lib.join, List.intercalate]
  | cons n l =>
    rw [List.map_cons, Lib.join_cons]
    have h2 := h1 l (fun m hm => hx m (by simp [hm]))
    have h3 := Lib.itoa_length_le n (hx n (by simp)).1 (hx n (by simp)).2
    have h4 : (txt n).data.toList.length = (Lib.itoa n).length := by simp [txt]
    rw [List.length_append, List.length_cons, Nat.succ_mul]
    omega

def strsOf (xs : List Int) : List Value := xs.map fun n => .string (txt n)
theorem strsOf_snoc {xs : List Int} {k : Nat} (h : k < xs.length) : strsOf (xs.take (k + 1)) = strsOf (xs.take k) ++ [.string (txt xs[k])] := by
  rw [strsOf, List.take_succ_eq_append_getElem h, List.map_append]
  rfl
theorem own_blw {w w' : World} {base e k : Nat} {v : Value} {xs : List Value} (h : w.ownsRow base e 1 v k xs) (hb : Below w.heap.size w w') : w'.ownsRow base e 1 v k xs := by
  obtain ⟨hl, h⟩ := h
  rcases h with ⟨rfl, rfl⟩ | ⟨g, cap, cur, rfl, hg, hb', hk, hc, hs, rfl⟩
  · exact ⟨hl, .inl ⟨rfl, rfl⟩⟩
  · exact ⟨hl, .inr ⟨g, cap, cur, rfl, hg, (hb.block g (Array.getElem?_eq_some_iff.1 hb').1).trans hb', hk, hc, hs, rfl⟩⟩
theorem joined (sep : ByteArray) (xs : List Int) (w : World) (g cap : Nat) (hx : ∀ n ∈ xs, -9223372036854775808 ≤ n ∧ n ≤ 9223372036854775807) (hN : xs.length ≤ 1000) (hsep : sep.size ≤ 1000) (hg : g < w.heap.size) (hcap : xs.length ≤ cap) (hc : ∀ j u, (strsOf xs)[j]? = some u → w.cell? ⟨g, 0 + j, none⟩ = some u) :
    Calls Tryz.prog 53 #[.slice (some ⟨g, 0, none⟩) xs.length cap, .string sep] w fun e w' => e = .returned (.string (joinS sep xs)) ∧ Below w.heap.size w w' := by
  have hl := join_len xs sep.data.toList hx
  have hs : sep.data.toList.length ≤ 1000 := by rw [Array.length_toList]; exact hsep
  have hj := Tryz.strings_Join g 0 cap (xs.map txt) sep w (fun j x h => hc j _ (by simp [strsOf] at h ⊢; exact ⟨_, h.choose_spec.1, h.choose_spec.2⟩)) hg (by simp; omega) (by simpa using hcap) (by
    rw [List.map_map]
    refine Nat.le_trans hl (Nat.le_trans (Nat.mul_le_mul hN (Nat.add_le_add_left hs 21)) (by omega)))
  rw [List.map_map, List.length_map] at hj
  exact hj
theorem own_cells {w : World} {base e k : Nat} {v : Value} {xs : List Value} (h : w.ownsRow base e 1 v k xs) : (∃ c, v = .slice none 0 c ∧ k = 0) ∨ ∃ g cap, v = .slice (some ⟨g, 0, none⟩) k cap ∧ k ≤ cap ∧ g < w.heap.size ∧ ∀ j u, xs[j]? = some u → w.cell? ⟨g, 0 + j, none⟩ = some u := by
  obtain ⟨hl, h⟩ := h
  rcases h with ⟨rfl, rfl⟩ | ⟨g, cap, cur, rfl, hg, hb, hk, hc, hs, rfl⟩
  · exact .inl ⟨0, rfl, rfl⟩
  · refine .inr ⟨g, cap, rfl, hk, (Array.getElem?_eq_some_iff.1 hb).1, fun j u hj => ?_⟩
    have hB : Blk w g e cur.toList := by simpa [Blk] using hb
    rw [hB.cell]
    rw [List.getElem?_take] at hj
    split at hj
    · simpa using hj
    · cases hj

set_option maxHeartbeats 2000000 in
theorem join_any (sep : ByteArray) (la : Option Addr) (lc : Nat) (xs : List Int) (w : World) (hp : Pow w) (hx : ∀ n ∈ xs, -9223372036854775808 ≤ n ∧ n ≤ 9223372036854775807) (hN : xs.length ≤ 1000) (hsep : sep.size ≤ 1000)
    (hrow : 0 < xs.length → ∃ b o, la = some ⟨b, o, none⟩ ∧ b < w.heap.size ∧ IntRow w b o xs) :
    Calls Tryz.prog 24 #[.string sep, .slice la xs.length lc] w fun e w' => e = .returned (.string (joinS sep xs)) ∧ Below w.heap.size w w' := by
  obtain ⟨i0, hi, hz0, hz1, hz2⟩ := info_parts info9_
  replace hrow := Lib.hid hrow
  go_enter Tryz.func24, Tryz.ntmps24
  go_wp2_with fail
  go_loopw [5, 10] (fun v i wr => ∃ k : Nat, k ≤ xs.length ∧ i = .int .i64 (k : Int) ∧ wr.ownsRow w.heap.size 9 1 v k (strsOf (xs.take k)) ∧ Below w.heap.size w wr) (fun _ i _ => xs.length - (intOf i).toNat)
  case atStart => exact ⟨0, by omega, rfl, World.ownsRow_nil _ _ _ _, Below.refl _ _⟩
  case round =>
    obtain ⟨k, hk, rfl, hown, hnx⟩ := hrel
    have hsize := hnx.size
    by_cases hlt : k < xs.length
    · obtain ⟨b, o, rfl, hb, hr⟩ := hrow.out (by omega)
      have c1 : wr.cell? ⟨b, o + k, none⟩ = some (.int .i64 xs[k]) := by rw [hnx.cell hb]; exact hr k hlt
      have hxk := hx _ (List.getElem_mem hlt)
      have hpw := Lib.hid (hp.below hnx)
      clear hr
      generalize hz : xs[k] = z at c1 hxk
      replace hz := Lib.hid hz
      go_wp2_with (first
        | (go_at_call 26; refine (text_any z hxk _ hpw.out).mono ?_; rintro e w2 ⟨rfl, hb2⟩; have hown2 := own_blw hown hb2; have hsize2 := hb2.size)
        | (at_builtin; refine wpList_append_own _ rfl (.tmp 14) (.tmp 17) 87 rfl w.heap.size 9 i0 (.string ⟨#[]⟩) 1 16 Tryz.underlying87 hi hz0 hz1 hz2 rfl (by decide) _ _ _ rfl (hown2.alloc _) ⟨w2.heap.size, 0, none⟩ 1 1 [.string (txt z)] rfl rfl (cell_one_new _ _ _) (by intro u hu; simp at hu; subst hu; rfl) (by unfold maxLen; omega) (by omega) (by simp; omega) ?_; intro v1 w1 hown1 hgrow1 hnil1))
      all_goals go_roundw
      case rel => exact ⟨k + 1, by omega, by go_num, by rw [strsOf_snoc hlt, hz.out]; exact hown1, ((hnx.trans (hb2.mono hnx.size)).alloc (by omega) _).grown hgrow1 (by simp; omega) (fun j hj => (hown2.lt j hj).1)⟩
      case measure => simp [intOf]; omega
    · have hk' : k = xs.length := by omega
      subst hk'
      rw [List.take_length] at hown
      rcases own_cells hown with ⟨c, rfl, h0⟩ | ⟨g, cap, rfl, hcap, hg, hc⟩
      · have hnil : xs = [] := List.length_eq_zero_iff.1 h0
        subst hnil
        clear hown
        go_wp2_with (go_at_call 53; refine (Tryz.strings_Join_none none c sep _).mono ?_; rintro e w2 ⟨rfl, rfl⟩)
        all_goals go_ret
        all_goals exact ⟨rfl, hnx⟩
      · clear hown
        go_wp2_with (go_at_call 53; refine (joined sep xs _ g cap hx hN hsep hg hcap hc).mono ?_; rintro e w2 ⟨rfl, hb2⟩)
        all_goals go_ret
        all_goals exact ⟨rfl, hnx.trans (hb2.mono hnx.size)⟩
end Go.Proofs.YtepdfkgadigafaaGreatDoor
