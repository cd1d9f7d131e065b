/-
  Contracts of the reference's Text and Copy: the number's decimal text; the same bytes, by themselves.
  Conditions: as each theorem states them; none beyond.
-/
import Derived.Test.YtjfpepinmbbnbaaDoorBack0
import Derived.Deep.RegionWith
import Derived.Laws.IdiomStrings
import Derived.Lib.AppendStr
import Derived.Laws.AppendOwnNone
namespace Go.Proofs.YtjfpepinmbbnbaaDoor
open Go.RowKit
set_option linter.unusedVariables false
/-- one byte's row, as a string -/
theorem conv1 (w : World) (g c : Nat) (d : UInt8) (h : w.cell? ⟨g, 0, none⟩ = some (.int .u8 (d.toNat : Int))) :
    (convert 22 9 (.slice (some ⟨g, 0, none⟩) 1 c)).run Tryd.prog w = .ok (.string ⟨#[d]⟩) w :=
  run_convert_bytes_back (P := Tryd.prog) w 22 9 5 ⟨g, 0, none⟩ c [d] Tryd.underlying22 Tryd.underlying5 Tryd.underlying9 (fun j hj => by
    have : j = 0 := by simpa using hj
    subst this
    exact h)
set_option maxHeartbeats 1000000 in
theorem rtext_neg (d : Nat) (h0 : 1 ≤ d) (h1 : d < 10) (w : World) :
    Calls Tryd.prog 17 #[.int .i64 (-(d : Int))] w fun e w' => e = .returned (.string (txt (-(d : Int)))) ∧ Below w.heap.size w w' := by
  have et : txt (-(d : Int)) = ⟨#[45, UInt8.ofNat (48 + d)]⟩ := by rw [txt_neg d h0, dd_small h1]
  have ed : (48 : Int) - (-(d : Int)) = ((UInt8.ofNat (48 + d)).toNat : Int) := by simp [UInt8.toNat_ofNat']; omega
  have q1 : (-10 : Int) < -(d : Int) := by omega
  have q2 : -(d : Int) < 0 := by omega
  have kc := fun (w : World) (g c : Nat) h => conv1 w g c (UInt8.ofNat (48 + d)) h
  have hd : 0 ≤ ((UInt8.ofNat (48 + d)).toNat : Int) ∧ ((UInt8.ofNat (48 + d)).toNat : Int) ≤ 255 := by have := (UInt8.ofNat (48 + d)).toNat_lt; omega
  rw [et]
  generalize UInt8.ofNat (48 + d) = c at *
  generalize hm : -(d : Int) = m at *
  go_enter Tryd.func17, Tryd.ntmps17
  go_wp2_with fail
  all_goals go_ret
  all_goals exact ⟨rfl, bl_alloc (Below.refl _ _) _⟩
set_option maxHeartbeats 1000000 in
theorem rtext_dig (d : Nat) (h1 : d < 10) (w : World) :
    Calls Tryd.prog 17 #[.int .i64 (d : Int)] w fun e w' => e = .returned (.string (txt (d : Int))) ∧ Below w.heap.size w w' := by
  have et : txt (d : Int) = ⟨#[UInt8.ofNat (48 + d)]⟩ := by rw [txt_nat d, dd_small h1]
  have ed : (48 : Int) + (d : Int) = ((UInt8.ofNat (48 + d)).toNat : Int) := by simp [UInt8.toNat_ofNat']; omega
  have q1 : (0 : Int) ≤ (d : Int) := by omega
  have q2 : (d : Int) < 10 := by omega
  have q3 : (-10 : Int) < (d : Int) := by omega
  have kc := fun (w : World) (g c : Nat) h => conv1 w g c (UInt8.ofNat (48 + d)) h
  have hd : 0 ≤ ((UInt8.ofNat (48 + d)).toNat : Int) ∧ ((UInt8.ofNat (48 + d)).toNat : Int) ≤ 255 := by have := (UInt8.ofNat (48 + d)).toNat_lt; omega
  rw [et]
  generalize UInt8.ofNat (48 + d) = c at *
  generalize hm : (d : Int) = m at *
  go_enter Tryd.func17, Tryd.ntmps17
  go_wp2_with fail
  all_goals go_ret
  all_goals exact ⟨rfl, bl_alloc (Below.refl _ _) _⟩
theorem wrap_i64_id {n : Int} (h : -9223372036854775808 ≤ n ∧ n ≤ 9223372036854775807) : IntKind.i64.wrap n = n := by
  simp [IntKind.wrap, IntKind.signed, IntKind.bits]
  omega
theorem wrap_u8_id {n : Int} (h : 0 ≤ n ∧ n ≤ 255) : IntKind.u8.wrap n = n := by
  simp [IntKind.wrap, IntKind.signed, IntKind.bits]
  omega
set_option maxHeartbeats 4000000 in
set_option maxRecDepth 100000 in
theorem rtext_rec (m r q : Int) (T : ByteArray) (c : UInt8) (hm : m ≤ -10 ∨ 10 ≤ m) (hw : -9223372036854775808 ≤ m ∧ m ≤ 9223372036854775807) (hr : Int.tmod m 10 = r) (hr' : 0 ≤ m → m % 10 = r) (hq : Int.tdiv m 10 = q) (hq' : 0 ≤ m → m / 10 = q)
    (hqb : -9223372036854775808 ≤ q ∧ q ≤ 9223372036854775807) (hc : (r < 0 ∧ (48 : Int) + -r = (c.toNat : Int)) ∨ (0 ≤ r ∧ (48 : Int) + r = (c.toNat : Int))) (hT : T.size ≤ 100) (w : World)
    (ih : ∀ w, Calls Tryd.prog 17 #[.int .i64 q] w fun e w' => e = .returned (.string T) ∧ Below w.heap.size w w') :
    Calls Tryd.prog 17 #[.int .i64 m] w fun e w' => e = .returned (.string (T ++ ⟨#[c]⟩)) ∧ Below w.heap.size w w' := by
  have kc := fun (w : World) (g c' : Nat) h => conv1 w g c' c h
  have hd : 0 ≤ (c.toNat : Int) ∧ (c.toNat : Int) ≤ 255 := by have := c.toNat_lt; omega
  have wq : IntKind.i64.wrap q = q := wrap_i64_id hqb
  have wc : IntKind.i64.wrap (c.toNat : Int) = (c.toNat : Int) := wrap_i64_id (by omega)
  have wu : IntKind.u8.wrap (c.toNat : Int) = (c.toNat : Int) := wrap_u8_id hd
  replace ih := Lib.hid ih
  rcases hm with hm | hm
  · have q1 : m < 0 := by omega
    have q2 : decide (-10 < m) = false := by simp; omega
    have q3 : decide (0 ≤ m) = false := by simp; omega
    clear hr' hq'
    rcases hc with ⟨hr0, hc⟩ | ⟨hr0, hc⟩
    all_goals (
      go_enter Tryd.func17, Tryd.ntmps17
      go_wp2_with fail
      go_region_with (go_at_call 17; refine (ih.out _).mono ?_; rintro e w2 ⟨rfl, hb2⟩; have h7 := hb2.cell (p := ⟨w.heap.size, 0, none⟩))
      all_goals go_wp2_with fail
      all_goals go_ret
      all_goals (first | exact ⟨rfl, bl_alloc (bl_trans (bl_drew (Below.refl _ _)) hb2) _⟩ | exact ⟨rfl, bl_trans (bl_drew (bl_alloc (Below.refl _ _) _)) hb2⟩))
  · have q1 : 0 ≤ m := by omega
    have q2 : decide (m < 0) = false := by simp; omega
    have q3 : decide (m < 10) = false := by simp; omega
    have q4 : -10 < m := by omega
    have hr' := hr' q1
    have hq' := hq' q1
    have hc : 0 ≤ r ∧ (48 : Int) + r = (c.toNat : Int) := by omega
    obtain ⟨hr0, hc⟩ := hc
    go_enter Tryd.func17, Tryd.ntmps17
    go_wp2_with fail
    go_region_with (go_at_call 17; refine (ih.out _).mono ?_; rintro e w2 ⟨rfl, hb2⟩; have h7 := hb2.cell (p := ⟨w.heap.size, 0, none⟩))
    all_goals go_wp2_with fail
    all_goals go_ret
    all_goals (first | exact ⟨rfl, bl_alloc (bl_trans (bl_drew (Below.refl _ _)) hb2) _⟩ | exact ⟨rfl, bl_trans (bl_drew (bl_alloc (Below.refl _ _) _)) hb2⟩)
theorem txt_size (n : Int) (hn : -9223372036854775808 ≤ n ∧ n ≤ 9223372036854775807) : (txt n).size ≤ 21 := by
  have h := Lib.itoa_length_le n hn.1 hn.2
  show (Lib.itoa n).toArray.size ≤ 21
  simpa using h
theorem rtext_all : ∀ (k : Nat) (n : Int), n.natAbs ≤ k → (-9223372036854775808 ≤ n ∧ n ≤ 9223372036854775807) → ∀ w, Calls Tryd.prog 17 #[.int .i64 n] w fun e w' => e = .returned (.string (txt n)) ∧ Below w.heap.size w w' := by
  intro k
  induction k with
  | zero =>
    intro n hk hn w
    obtain rfl : n = ((0 : Nat) : Int) := by omega
    exact rtext_dig 0 (by omega) w
  | succ k ih =>
    intro n hk hn w
    by_cases h0 : 0 ≤ n
    · obtain ⟨u, rfl⟩ : ∃ u : Nat, n = u := ⟨n.toNat, by omega⟩
      by_cases h1 : u < 10
      · exact rtext_dig u h1 w
      · rw [txt_up u h1]
        have e1 : Int.tmod (u : Int) 10 = ((u % 10 : Nat) : Int) := by rw [Int.tmod_eq_emod_of_nonneg (by omega)]; rfl
        have e2 : Int.tdiv (u : Int) 10 = ((u / 10 : Nat) : Int) := by rw [Int.tdiv_eq_ediv_of_nonneg (by omega)]; rfl
        exact rtext_rec u ((u % 10 : Nat) : Int) ((u / 10 : Nat) : Int) (txt ((u / 10 : Nat) : Int)) _ (by omega) hn e1 (fun _ => by omega) e2 (fun _ => by omega) (by omega)
          (.inr ⟨by omega, by simp [UInt8.toNat_ofNat']; omega⟩) (Nat.le_trans (txt_size _ (by omega)) (by omega)) w (fun w => ih _ (by omega) (by omega) w)
    · obtain ⟨u, rfl⟩ : ∃ u : Nat, n = -(u : Int) := ⟨n.natAbs, by omega⟩
      by_cases h1 : u < 10
      · exact rtext_neg u (by omega) h1 w
      · rw [txt_down u h1]
        have e1 : Int.tmod (-(u : Int)) 10 = -((u % 10 : Nat) : Int) := by rw [Int.neg_tmod, Int.tmod_eq_emod_of_nonneg (by omega)]; rfl
        have e2 : Int.tdiv (-(u : Int)) 10 = -((u / 10 : Nat) : Int) := by rw [Int.neg_tdiv, Int.tdiv_eq_ediv_of_nonneg (by omega)]; rfl
        exact rtext_rec (-(u : Int)) (-((u % 10 : Nat) : Int)) (-((u / 10 : Nat) : Int)) (txt (-((u / 10 : Nat) : Int))) _ (by omega) hn e1 (fun _ => by omega) e2 (fun _ => by omega) (by omega)
          (by have e : ((UInt8.ofNat (48 + u % 10)).toNat : Int) = 48 + ((u % 10 : Nat) : Int) := by simp [UInt8.toNat_ofNat']; omega
              rw [e]; omega) (Nat.le_trans (txt_size _ (by omega)) (by omega)) w (fun w => ih _ (by omega) (by omega) w)
theorem rtext_any (n : Int) (hn : -9223372036854775808 ≤ n ∧ n ≤ 9223372036854775807) (w : World) :
    Calls Tryd.prog 17 #[.int .i64 n] w fun e w' => e = .returned (.string (txt n)) ∧ Below w.heap.size w w' := rtext_all _ n (Nat.le_refl _) hn w

/-! ### a source of bytes; its copy -/
def bv (x : UInt8) : Value := .int .u8 (x.toNat : Int)
def Src (w : World) (ba : Option Addr) (xs : List UInt8) : Prop := (ba = none ∧ xs = []) ∨ ∃ a, ba = some a ∧ ∀ j u, (xs.map bv)[j]? = some u → a.block < w.heap.size ∧ w.cell? (a.add j) = some u
theorem add_block (a : Addr) (j : Nat) : (a.add j).block = a.block := by unfold Addr.add; split <;> rfl
theorem Src.below {w w' : World} {ba : Option Addr} {xs : List UInt8} (h : Src w ba xs) (hb : Below w.heap.size w w') : Src w' ba xs := by
  rcases h with h | ⟨a, rfl, h⟩
  · exact .inl h
  · exact .inr ⟨a, rfl, fun j u hj => ⟨Nat.lt_of_lt_of_le (h j u hj).1 hb.size, (hb.cell (p := a.add j) (by rw [add_block]; exact (h j u hj).1)).trans (h j u hj).2⟩⟩
theorem Src.of {w : World} {ba : Option Addr} {xs : List UInt8} (hb : 0 < xs.length → ∃ p o, ba = some ⟨p, o, none⟩ ∧ ByteRow w p o xs) : Src w ba xs := by
  by_cases h0 : 0 < xs.length
  · obtain ⟨p, o, rfl, hr⟩ := hb h0
    refine .inr ⟨_, rfl, fun j u hj => ?_⟩
    obtain ⟨hj1, hj2⟩ := List.getElem?_eq_some_iff.1 hj
    have hj3 : j < xs.length := by simpa using hj1
    have h1 := hr j hj3
    have e : (⟨p, o, none⟩ : Addr).add j = ⟨p, o + j, none⟩ := by simp [Addr.add]
    rw [e, h1, ← hj2]
    exact ⟨World.block_lt_of_cell? w ⟨p, o + j, none⟩ h1, by simp [bv]⟩
  · have : xs = [] := List.length_eq_zero_iff.1 (by omega)
    subst this
    cases ba with
    | none => exact .inl ⟨rfl, rfl⟩
    | some a => exact .inr ⟨a, rfl, fun j u hj => by simp at hj⟩
theorem run_append_nil0 {P : Program} {w : World} (base : Nat) (t ty e : TypeId) (i : TypeInfo) (size : Nat) (ht : P.underlying t = some (.slice e)) (hi : P.info? e = some i)
    (v : Value) (n c : Nat) (xs : List Value) (hown : w.ownsRow base e size v n xs) :
    (Builtin.append_ #[t, t] ty #[v, .slice none 0 c]).run P w = .ok v w := by
  rcases hown.2 with ⟨rfl, rfl⟩ | ⟨g, cap, cur, rfl, _, _, hnc, _⟩
  · simp [Builtin.append_, run_underlying ht, sizeOf, typeInfo, hi, Builtin.lenOf, Builtin.firstCells]
  · simp [Builtin.append_, run_underlying ht, sizeOf, typeInfo, hi, Builtin.lenOf, Builtin.firstCells, hnc, storeCells]
/-- 'append(buf, xs...)', buf the call's own, xs a source of bytes -/
theorem wpList_append_src {P : Program} {w : World} {ops : Array Oper} {rest : List Oper} {o : Oper} {a : Act} {Q : Exit → Act → World → Prop} (hgd : o.guard = none) (s x : Operand) (t : TypeId)
    (ho : o.op = .call { callee := .builtin .append, args := #[s, x], argTypes := #[t, t] })
    (base : Nat) (e : TypeId) (i : TypeInfo) (z : Value) (ht : P.underlying t = some (.slice e)) (hi : P.info? e = some i) (hz : i.zero = some z) (hsize : i.size = 1) (hby : i.bytes = 1) (hzs : z.cells.size = 1)
    (v : Value) (n : Nat) (ys : List Value) (hs : a.eval s = v) (hown : w.ownsRow base e 1 v n ys)
    (ba : Option Addr) (c : Nat) (xs : List UInt8) (hx : a.eval x = .slice ba xs.length c) (hsrc : Src w ba xs) (hbound : n + xs.length ≤ 1000000) (hbase : base ≤ w.heap.size)
    (h : ∀ v' w', w'.ownsRow base e 1 v' (n + xs.length) (ys ++ xs.map bv) → w.grownBy w' v.ownBlock → wpList P ops Q rest (a.put o.dst v') w') : wpList P ops Q (o :: rest) a w := by
  rcases hsrc with ⟨rfl, rfl⟩ | ⟨ad, rfl, hc⟩
  · refine wpList_plain hgd fun K hK => ?_
    have hrun := run_append_nil0 (P := P) (w := w) base t o.type e i 1 ht hi v n c ys hown
    unfold Oper.wp
    simp only [List.length_nil] at hx
    simp [execOp, ho, resolve, invoke, builtin, hs, hx, hrun, Result.andThen]
    exact hK _ _ (h v w (by simpa using hown) (World.grownBy.refl _ _))
  · exact wpList_append_own w hgd s x t ho base e i z 1 1 ht hi hz hsize hby hzs (by omega) v n ys hs hown ad xs.length c (xs.map bv) hx (by simp) (fun j u hj => (hc j u hj).2)
      (fun u hu => by simp at hu; obtain ⟨b, _, rfl⟩ := hu; rfl) (by unfold maxLen; omega) (by omega) hbase (fun v' w' h1 h2 _ => h v' w' h1 h2)
theorem info5_ : (Tryd.prog.info? 5).map (fun i => (i.zero, i.size, i.bytes)) = some (some (.int .u8 0), 1, 1) := by kernel_rfl
theorem copy_any (ba : Option Addr) (bc : Nat) (xs : List UInt8) (w : World) (hl : xs.length ≤ 1000) (hs : Src w ba xs) :
    Calls Tryd.prog 18 #[.slice ba xs.length bc] w fun e w' => ∃ v, e = .returned v ∧ w'.ownsRow w.heap.size 5 1 v xs.length (xs.map bv) ∧ Below w.heap.size w w' := by
  obtain ⟨i0, hi, hz0, hz1, hz2⟩ := info_parts info5_
  have ho := World.ownsRow_lit (base := w.heap.size) (e := 5) (size := 1) w #[] 0 (Nat.le_refl _) (by decide) rfl
  have hs' := hs.below (bl_alloc (Below.refl _ _) (.cells #[] 5))
  clear hs
  replace ho := Lib.hid ho
  replace hs' := Lib.hid hs'
  go_enter Tryd.func18, Tryd.ntmps18
  go_wp2_with (at_builtin; refine wpList_append_src rfl (.tmp 3) (.tmp 4) 22 rfl w.heap.size 5 i0 (.int .u8 0) Tryd.underlying22 hi hz0 hz1 hz2 rfl _ _ _ rfl ho.out ba bc xs rfl hs'.out (by omega) (by simp) ?_; intro v1 w1 hown1 hgrow1)
  all_goals go_ret
  all_goals exact ⟨v1, rfl, by simpa using hown1, (bl_alloc (Below.refl _ _) _).grown hgrow1 (by simp) (fun j hj => (ho.out.lt j hj).1)⟩
end Go.Proofs.YtjfpepinmbbnbaaDoor
