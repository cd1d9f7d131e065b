/-
  lines.Cut; of chapter 02.
  Conditions: as each theorem states them.
-/
import Derived.Test.YtaginadnaajleaaDoorCut
import Derived.Lib.SmallJoins
import Derived.Below
namespace Go.Proofs.YtaginadnaajleaaDoor
open Go.RowKit
set_option linter.unusedVariables false
set_option linter.unusedSimpArgs false
theorem own_base {w : World} {base base' size n : Nat} {e : TypeId} {v : Value} {xs : List Value} (h : w.ownsRow base e size v n xs) (hb : base' ≤ base) : w.ownsRow base' e size v n xs := by
  obtain ⟨h1, h2⟩ := h
  refine ⟨h1, ?_⟩
  rcases h2 with h2 | ⟨g, cap, cur, e1, hg, rest⟩
  · exact .inl h2
  · exact .inr ⟨g, cap, cur, e1, Nat.le_trans hb hg, rest⟩
theorem own_slice {w : World} {base e k n : Nat} {v : Value} {xs : List Value} (h : w.ownsRow base e k v n xs) : ∃ a c, v = .slice a n c := by
  rcases h.2 with ⟨rfl, rfl⟩ | ⟨g, cap, cur, rfl, _⟩
  · exact ⟨none, 0, rfl⟩
  · exact ⟨_, cap, rfl⟩
def n10 (c : UInt8) : Bool := decide (c ≠ 10)
theorem ix_nl (s : List UInt8) : Lib.indexByte s 10 = if (s.takeWhile n10).length = s.length then -1 else ((s.takeWhile n10).length : Int) := by
  induction s with
  | nil => rfl
  | cons c r ih =>
    unfold Lib.indexByte
    rw [ih]
    by_cases hc : c = 10
    · subst hc
      simp [n10, List.takeWhile]
    · have h1 : n10 c = true := by unfold n10; simpa using hc
      have h2 : (c == 10) = false := by simpa using hc
      rw [h2, List.takeWhile_cons, h1]
      simp only [if_true, List.length_cons, Nat.add_right_cancel_iff]
      by_cases hr : (r.takeWhile n10).length = r.length
      · simp [hr]
      · simp only [if_neg hr]
        have : (((r.takeWhile n10).length : Int) == -1) = false := by first | (simp; done) | (simp; omega)
        rw [this]; simp
theorem nl_take (s : List UInt8) : s.take (s.takeWhile n10).length = s.takeWhile n10 := by
  induction s with
  | nil => rfl
  | cons c r ih => rw [List.takeWhile_cons]; split <;> simp_all
theorem nl_le (s : List UInt8) : (s.takeWhile n10).length ≤ s.length := (List.takeWhile_sublist n10 (l := s)).length_le
/-- the lines of a text, line by line -/
theorem lines_step : ∀ s : List UInt8, s ≠ [] → BM.linesS s = s.takeWhile n10 :: BM.linesS (s.drop ((s.takeWhile n10).length + 1))
  | [], h => absurd rfl h
  | [c], _ => by
    by_cases hc : c = 10
    · subst hc; rfl
    · have h1 : n10 c = true := by unfold n10; simpa using hc
      rw [BM.linesS, if_neg hc, List.takeWhile_cons, h1]
      rfl
  | c :: d :: r, _ => by
    have ih := lines_step (d :: r) (by simp)
    by_cases hc : c = 10
    · subst hc
      rw [BM.linesS, if_pos rfl]
      simp [n10, List.takeWhile]
    · have h1 : n10 c = true := by unfold n10; simpa using hc
      rw [BM.linesS, if_neg hc, ih]
      generalize d :: r = q
      rw [List.takeWhile_cons (a := c), h1]
      simp
theorem bytesOf_toNat (l : List UInt8) : Lib.bytesOf (l.map fun c => (c.toNat : Int)) = l := by
  unfold Lib.bytesOf
  rw [List.map_map]
  conv => rhs; rw [← List.map_id l]
  apply List.map_congr_left
  intro c _
  simp
theorem bix_any (p o c : Nat) (l : List UInt8) (w : World) (hr : ByteRow w p o l) : Calls Tryd.prog 60 #[.slice (some ⟨p, o, none⟩) l.length c, .int .u8 10] w fun e w' => e = .returned (.int .i64 (if (l.takeWhile n10).length = l.length then -1 else ((l.takeWhile n10).length : Int))) ∧ w' = w := by
  have h := Tryd.bytes_IndexByte p o l.length c (l.map fun c => (c.toNat : Int)) 10 w (by simp) (fun i hi => by rw [hr i hi]; simp [List.getD, hi])
  rw [bytesOf_toNat] at h
  exact h.mono fun e w' he => ⟨by rw [he.1, ← ix_nl]; rfl, he.2⟩
/-- what Cut answers -/
def LCutIs (r : List UInt8) (a : Nat) (w : World) (e : Ending) (w' : World) : Prop := ∃ v, e = .returned (.tuple #[.agg #[v, .bool (decide ((r.takeWhile n10).length < r.length))], .int .i64 ((if (r.takeWhile n10).length < r.length then a + (r.takeWhile n10).length + 1 else a + r.length : Nat) : Int), .bool true]) ∧
  w'.ownsRow w.heap.size 5 1 v (r.takeWhile n10).length (Lib.byteCells (r.takeWhile n10)) ∧ Below w.heap.size w w'
theorem row_drop {w : World} {p o a : Nat} {xs : List UInt8} (h : ByteRow w p o xs) : ByteRow w p (o + a) (xs.drop a) := fun i hi => by
  rw [List.length_drop] at hi
  have := h (a + i) (by omega)
  rw [List.getElem_drop]
  rw [Nat.add_assoc]; exact this
theorem row_tw {w : World} {p o : Nat} {xs : List UInt8} (h : ByteRow w p o xs) : ByteRow w p o (xs.takeWhile n10) := fun i hi => by
  have hle := nl_le xs
  have e : (xs.takeWhile n10)[i] = xs[i]'(by omega) := by
    have := nl_take xs
    conv => lhs; arg 1; rw [← this]
    rw [List.getElem_take]
  rw [e]; exact h i (by omega)
set_option maxHeartbeats 2000000 in
theorem lcut_end (n : Nat) (p : Option Addr) (c : Nat) (at_ : Nat) (h : n ≤ at_) (w : World) : Calls Tryd.prog 50 #[.slice p n c, .int .i64 (at_ : Int)] w fun e w' => e = .returned (.tuple #[.agg #[.slice none 0 0, .bool false], .int .i64 0, .bool false]) ∧ Below w.heap.size w w' := by
  go_enter Tryd.func50, Tryd.ntmps50
  go_wp2_with fail
  exact bodyPost_ret (v := .tuple #[.agg #[.slice none 0 0, .bool false], .int .i64 0, .bool false]) (by simp [results, Tryd.results50, go_sem]) rfl ⟨rfl, bl_alloc (Below.refl _ _) _⟩
set_option maxHeartbeats 4000000 in
set_option maxRecDepth 100000 in
theorem lcut_any (p o c : Nat) (xs : List UInt8) (a : Nat) (ha : a < xs.length) (hl : xs.length ≤ 100000) (hcap : xs.length ≤ c) (w : World) (hp : p < w.heap.size) (hr : ByteRow w p o xs) :
    Calls Tryd.prog 50 #[.slice (some ⟨p, o, none⟩) xs.length c, .int .i64 (a : Int)] w (LCutIs (xs.drop a) a w) := by
  obtain ⟨W1, hW1⟩ : ∃ W1, w.alloc (.cells #[.slice none 0 0, .bool false] 43) = W1 := ⟨_, rfl⟩
  have hb1 : Below w.heap.size w W1 := hW1 ▸ bl_alloc (Below.refl _ _) _
  have hz := hW1 ▸ (Blk.new w 43 [.slice none 0 0, .bool false])
  have hp1 : p < W1.heap.size := Nat.lt_of_lt_of_le hp hb1.size
  have hr1 : ByteRow W1 p (o + a) (xs.drop a) := row_drop (fun i hi => (hb1.cell (p := ⟨p, o + i, none⟩) hp).trans (hr i hi))
  have hdl : (xs.drop a).length = xs.length - a := List.length_drop
  have hi := fun c' => bix_any p (o + a) c' (xs.drop a) W1 hr1
  have hle := nl_le (xs.drop a)
  have hrt := row_tw hr1
  obtain ⟨r, hrr⟩ : ∃ r, xs.drop a = r := ⟨_, rfl⟩
  rw [hrr] at hr1 hdl hi hle hrt ⊢
  obtain ⟨L, hL⟩ : ∃ L, r.takeWhile n10 = L := ⟨_, rfl⟩
  obtain ⟨n, hn⟩ : ∃ n, xs.length = n := ⟨_, rfl⟩
  have hlt := hz.lt
  have hcl1 := fun c' => clone_any p (o + a) c' L (by rw [← hL]; omega) W1 hp1 (by rw [← hL]; exact hrt)
  have hcl2 := fun c' => clone_any p (o + a) c' r (by omega) W1 hp1 hr1
  rw [hL] at hi hle
  have hna : (a : Int) < n := by omega
  unfold LCutIs
  rw [hL]
  rw [hn] at hdl hcap hl ⊢
  rw [hdl] at hi hcl2
  have hk1 : ∀ w', Below W1.heap.size W1 w' → w'.cell? ⟨w.heap.size, 0, none⟩ = some (.slice none 0 0) ∧ w'.cell? ⟨w.heap.size, 1, none⟩ = some (.bool false) ∧ w'.frozen? ⟨w.heap.size, 0, none⟩ = false ∧ w'.frozen? ⟨w.heap.size, 1, none⟩ = false := fun w' h => ⟨(hz.below h).cell 0, (hz.below h).cell 1, (hz.below h).free 0, (hz.below h).free 1⟩
  by_cases hc : L.length = n - a
  · have hLr : L = r := by
      have := nl_take r
      rw [hL] at this
      rw [← this, List.take_of_length_le (by omega)]
    rw [if_pos hc] at hi
    have hd1 : decide (L.length < r.length) = false := by rw [decide_eq_false_iff_not]; omega
    rw [hd1, if_neg (by omega), hdl, show a + (n - a) = n by omega]
    subst hLr
    replace hi := Lib.hid hi
    replace hcl2 := Lib.hid hcl2
    replace hk1 := Lib.hid hk1
    rw [hdl]
    clear hcl1 hr1 hrt hr hd1 hrr hL hz
    go_enter Tryd.func50, Tryd.ntmps50
    go_wp2_with (first
      | (go_at_call 60; refine (hi.out _).mono ?_; rintro e w2 ⟨rfl, rfl⟩)
      | (go_at_call 61; refine (hcl2.out _).mono ?_; rintro e w3 ⟨v, rfl, ho, hb3⟩; obtain ⟨va, vc, rfl⟩ := own_slice ho; obtain ⟨k0, k1, k2, k3⟩ := hk1.out _ hb3))
    exact bodyPost_ret (v := .tuple #[.agg #[.slice va (n - a) vc, .bool false], .int .i64 (n : Int), .bool true]) (by simp [results, Tryd.results50, go_sem, k0, k1]) rfl ⟨_, rfl, own_base (ownsRow_setCell_below (a := ⟨w.heap.size, 1, none⟩) (ownsRow_setCell_below (a := ⟨w.heap.size, 0, none⟩) ho hlt _) hlt _) hb1.size, bl_setCell (p := ⟨w.heap.size, 1, none⟩) (bl_setCell (p := ⟨w.heap.size, 0, none⟩) (bl_trans hb1 hb3) (Nat.le_refl _) _) (Nat.le_refl _) _⟩
  · rw [if_neg hc] at hi
    have hlt2 : L.length < r.length := by omega
    rw [decide_eq_true hlt2, if_pos hlt2]
    obtain ⟨m, hm⟩ : ∃ m, L.length = m := ⟨_, rfl⟩
    rw [hm] at hi hcl1 hc hlt2 hle ⊢
    have hmn : (m : Int) ≤ n - a := by omega
    have hmc : (m : Int) ≤ c - a := by omega
    have hmc2 : m ≤ c - a := by omega
    have hmn2 : m ≤ n - a := by omega
    replace hi := Lib.hid hi
    replace hcl1 := Lib.hid hcl1
    replace hk1 := Lib.hid hk1
    clear hcl2 hr1 hrt hr hrr hL hz
    go_enter Tryd.func50, Tryd.ntmps50
    go_wp2_with (first
      | (go_at_call 60; refine (hi.out _).mono ?_; rintro e w2 ⟨rfl, rfl⟩)
      | (go_at_call 61; refine (hcl1.out _).mono ?_; rintro e w3 ⟨v, rfl, ho, hb3⟩; obtain ⟨va, vc, rfl⟩ := own_slice ho; obtain ⟨k0, k1, k2, k3⟩ := hk1.out _ hb3))
    exact bodyPost_ret (v := .tuple #[.agg #[.slice va m vc, .bool true], .int .i64 ((a + m + 1 : Nat) : Int), .bool true]) (by simp [results, Tryd.results50, go_sem, k0, k1]) rfl ⟨_, rfl, own_base (ownsRow_setCell_below (a := ⟨w.heap.size, 1, none⟩) (ownsRow_setCell_below (a := ⟨w.heap.size, 0, none⟩) ho hlt _) hlt _) hb1.size, bl_setCell (p := ⟨w.heap.size, 1, none⟩) (bl_setCell (p := ⟨w.heap.size, 0, none⟩) (bl_trans hb1 hb3) (Nat.le_refl _) _) (Nat.le_refl _) _⟩
end Go.Proofs.YtaginadnaajleaaDoor
