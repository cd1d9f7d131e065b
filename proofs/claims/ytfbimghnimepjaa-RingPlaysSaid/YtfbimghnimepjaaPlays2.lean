/-
  The contract of 'same', of chapter 24's laws: a ring that holds what the reference's holds is told to.
  Conditions: as each theorem states them.
-/
import Derived.Test.YtfbimghnimepjaaPlays1
import Derived.Test.YtfbimghnimepjaaIter4
import Derived.Deep.RegionHeld3
import Derived.ControlIn
import Derived.Shelf.RegionOpen
namespace Go.Proofs.Ytfbimghnimepjaa
open Go.RowKit Go.Shelf
set_option linter.unusedVariables false
set_option linter.unusedSimpArgs false
attribute [local go_sem] Oper.semAt_some
/-- a ring at p, with its room at g, and the reference's at px hold the same -/
structure Match (w : World) (p g px cap low : Nat) (xs : List Int) : Prop where
  ring : ∃ room, RingAt 107 3 w p g room low (low + xs.length) ∧ room.length = cap ∧ ∀ j (h : j < xs.length), room[(low + j) % cap]? = some (.int .i64 xs[j])
  ref : RefAt (fun k => k = p ∨ k = g) w px cap low xs
  ne : px ≠ p ∧ px ≠ g
  small : low ≤ 100000000 ∧ xs.length ≤ 1000
theorem Match.below {w w' : World} {p g px cap low : Nat} {xs : List Int} (h : Match w p g px cap low xs) (hb : Below w.heap.size w w') : Match w' p g px cap low xs := by
  obtain ⟨⟨room, hr, h1, h2⟩, h3, h4, h5⟩ := h
  exact ⟨⟨room, hr.below hb, h1, h2⟩, h3.below hb, h4, h5⟩
def atV (low : Nat) (xs : List Int) (n : Int) : Int × Bool := if (low : Int) ≤ n ∧ n < ((low + xs.length : Nat) : Int) then (xs.getD (n - low).toNat 0, true) else (0, false)
theorem at_ring (n : Int) {w : World} {p g px cap low : Nat} {xs : List Int} (h : Match w p g px cap low xs) :
    Calls Try.prog 39 #[.pointer (some ⟨p, 0, none⟩), .int .i64 n] w fun e w' => e = .returned (.tuple #[.int .i64 (atV low xs n).1, .bool (atV low xs n).2]) ∧ ∃ m, w' = w.drewN m := by
  obtain ⟨⟨room, hr, h1, h2⟩, h3, h4, h5⟩ := h
  unfold atV
  by_cases hin : (low : Int) ≤ n ∧ n < ((low + xs.length : Nat) : Int)
  · rw [if_pos hin]
    obtain ⟨k, rfl⟩ : ∃ k : Nat, n = ((low + k : Nat) : Int) := ⟨(n - low).toNat, by omega⟩
    have hk : k < xs.length := by omega
    have e : (((low + k : Nat) : Int) - low).toNat = k := by omega
    rw [e, List.getD_eq_getElem?_getD, List.getElem?_eq_getElem hk]
    exact at_in_int (low + k) _ w p g room low _ hr (by omega) (by omega) (by rw [h1]; exact h2 k hk)
  · rw [if_neg hin]
    refine (at_out_int n w p g room low _ hr (by omega)).mono ?_
    rintro e w' ⟨rfl, rfl⟩
    exact ⟨rfl, 0, rfl⟩
theorem at_ref (n : Int) {w : World} {p g px cap low : Nat} {xs : List Int} (h : Match w p g px cap low xs) :
    Calls Try.prog 61 #[.pointer (some ⟨px, 0, none⟩), .int .i64 n] w fun e w' => e = .returned (.tuple #[.int .i64 (atV low xs n).1, .bool (atV low xs n).2]) ∧ ∃ m, w' = w.drewN m := by
  obtain ⟨_, h3, h4, h5⟩ := h
  unfold atV
  by_cases hin : (low : Int) ≤ n ∧ n < ((low + xs.length : Nat) : Int)
  · rw [if_pos hin]
    obtain ⟨k, rfl⟩ : ∃ k : Nat, n = ((low + k : Nat) : Int) := ⟨(n - low).toNat, by omega⟩
    have hk : k < xs.length := by omega
    have e : (((low + k : Nat) : Int) - low).toNat = k := by omega
    rw [e, List.getD_eq_getElem?_getD, List.getElem?_eq_getElem hk]
    exact refat_in k w px cap low xs h3 (by omega) (by omega) hk
  · rw [if_neg hin]
    exact refat_out n w px cap low xs h3 (by omega) (by omega) (by omega)
theorem wrap64_small' {n : Int} (h : 0 ≤ n ∧ n ≤ 9223372036854775807) : wrap64 n = n := by
  unfold wrap64
  omega
theorem func_ne_nil24 (la lo : Nat) (w : World) : (binOp .eql 79 (.func (.func 67) #[] #[.pointer (some ⟨la, 0, none⟩), .pointer (some ⟨lo, 0, none⟩)]) .nilFunc).run Try.prog w = .ok (.bool false) w := by kernel_rfl
/-- in this world the two rings lie as they lay, and the box of x -/
def SG (W1 : World) (bx px low : Nat) (w' : World) : Prop := Below W1.heap.size W1 w' ∧ w'.cell? ⟨bx, 0, none⟩ = some (.pointer (some ⟨px, 0, none⟩)) ∧ w'.cell? ⟨px, 1, none⟩ = some (.int .i64 (low : Int))
theorem SG.step {W1 : World} {bx px low : Nat} {w' w2 : World} (hbx : bx < W1.heap.size) (hpx : px < W1.heap.size) (h : SG W1 bx px low w') (hb : Below w'.heap.size w' w2) : SG W1 bx px low w2 := by
  obtain ⟨h0, h1, h2⟩ := h
  exact ⟨bl_trans h0 hb, (hb.cell (p := ⟨bx, 0, none⟩) (Nat.lt_of_lt_of_le hbx h0.size)).trans h1, (hb.cell (p := ⟨px, 1, none⟩) (Nat.lt_of_lt_of_le hpx h0.size)).trans h2⟩
/-- the last of these is none that should have come -/
def Mis (low : Nat) (xs : List Int) (pre : List Nat) : Prop := ∃ (ini : List Nat) (j : Nat), pre = ini ++ [j] ∧ ¬ (ini.length < xs.length ∧ wrap64 ((low : Int) + (j : Int)) = (low : Int) + (ini.length : Int) ∧ xs.getD j 0 = xs.getD ini.length 0)
theorem no_mis {low : Nat} {xs : List Int} {k : Nat} (hk : k ≤ xs.length) (hs : low ≤ 100000000 ∧ xs.length ≤ 1000) : ¬ Mis low xs (List.range k) := by
  rintro ⟨ini, j, e, h⟩
  cases k with
  | zero => simp at e
  | succ k =>
    rw [List.range_succ] at e
    obtain ⟨rfl, e2⟩ := List.append_inj' e rfl
    obtain rfl : k = j := by simpa using e2
    refine h ⟨by simp; omega, ?_, by simp⟩
    rw [List.length_range]
    exact wrap64_small' (by omega)
set_option maxHeartbeats 8000000 in
set_option maxRecDepth 100000 in
theorem same_any (n : Int) (hn : -9223372036854775808 ≤ n ∧ n ≤ 9223372036854775807) (w : World) (p g px cap low : Nat) (xs : List Int) (hM : Match w p g px cap low xs) :
    Calls Try.prog 32 #[.pointer (some ⟨p, 0, none⟩), .pointer (some ⟨px, 0, none⟩), .int .i64 n] w fun e w' => e = .returned (.bool true) ∧ Below w.heap.size w w' := by
  have hpx : px < w.heap.size := by obtain ⟨a, c, hb, _⟩ := hM.ref; exact hb.lt
  have hsm := hM.small
  obtain ⟨room, hring, hroom, hvals⟩ := hM.ring
  obtain ⟨a, c, x0, x1, x2, xc⟩ := hM.ref.cells
  -- the world behind the two boxes
  have hb1 : Below w.heap.size w ((w.alloc (.cells #[.pointer (some ⟨px, 0, none⟩)] 60)).alloc (.cells #[.bool false] 4)) := bl_alloc (bl_alloc (Below.refl _ _) _) _
  have bX := (Boxed.new w 60 (.pointer (some ⟨px, 0, none⟩))).alloc (.cells #[.bool false] 4)
  have bR := Boxed.new (w.alloc (.cells #[.pointer (some ⟨px, 0, none⟩)] 60)) 4 (.bool false)
  rw [World.size_alloc] at bR
  obtain ⟨W1, hW1⟩ : ∃ W1, (w.alloc (.cells #[.pointer (some ⟨px, 0, none⟩)] 60)).alloc (.cells #[.bool false] 4) = W1 := ⟨_, rfl⟩
  rw [hW1] at hb1 bX bR
  have hbx : w.heap.size < W1.heap.size := bX.lt
  have hpx1 : px < W1.heap.size := by omega
  have s1 : SG W1 w.heap.size px low W1.drew := SG.step hbx hpx1 ⟨Below.refl _ _, bX.cell, (hb1.cell (p := ⟨px, 1, none⟩) hpx).trans x1⟩ (bl_drew (Below.refl _ _))
  have up := fun (w' : World) (h : SG W1 w.heap.size px low w') => hM.below (bl_trans hb1 h.1)
  have stp := fun (w' w2 : World) (h : SG W1 w.heap.size px low w') (hw : ∃ m, w2 = w'.drewN m) => (show SG W1 w.heap.size px low w2 by obtain ⟨m, rfl⟩ := hw; exact h.step hbx hpx1 (bl_drewN (Below.refl _ _) _))
  have f1 := Lib.hid (fun w' (h : SG W1 w.heap.size px low w') => (low_int w' p g room low (low + xs.length) (hring.below (bl_trans hb1 h.1))).mono (R' := fun e w2 => e = .returned (.int .i64 (low : Int)) ∧ SG W1 w.heap.size px low w2) (fun e w2 he => ⟨he.1, by rw [← he.2]; exact h⟩))
  have f2 := Lib.hid (fun w' (h : SG W1 w.heap.size px low w') => (high_int w' p g room low (low + xs.length) (hring.below (bl_trans hb1 h.1))).mono (R' := fun e w2 => e = .returned (.int .i64 ((low + xs.length : Nat) : Int)) ∧ SG W1 w.heap.size px low w2) (fun e w2 he => ⟨he.1, by rw [← he.2]; exact h⟩))
  have f3 := Lib.hid (fun w' (h : SG W1 w.heap.size px low w') => (refhigh_any w' px cap low xs (up w' h).ref (by omega) (by omega)).mono (R' := fun e w2 => e = .returned (.int .i64 ((low + xs.length : Nat) : Int)) ∧ SG W1 w.heap.size px low w2) (fun e w2 he => ⟨he.1, stp w' w2 h he.2⟩))
  have f4 := Lib.hid (fun n w' (h : SG W1 w.heap.size px low w') => (at_ring n (up w' h)).mono (R' := fun e w2 => e = .returned (.tuple #[.int .i64 (atV low xs n).1, .bool (atV low xs n).2]) ∧ ∃ m, w2 = w'.drewN m) (fun e w2 he => he))
  have f5 := Lib.hid (fun n w' (h : SG W1 w.heap.size px low w') => (at_ref n (up w' h)).mono (R' := fun e w2 => e = .returned (.tuple #[.int .i64 (atV low xs n).1, .bool (atV low xs n).2]) ∧ ∃ m, w2 = w'.drewN m) (fun e w2 he => he))
  replace s1 := Lib.hid s1
  replace stp := Lib.hid stp
  have hh : ((low + xs.length : Nat) : Int) ≤ 100001000 := by omega
  have hh0 : (0 : Int) ≤ ((low + xs.length : Nat) : Int) := by omega
  have hl2 : (low : Int) ≤ 100000000 := by omega
  generalize hH : low + xs.length = high at *
  clear up
  refine (callsIn_wide (n := 5)).1 ?_
  refine callsIn_of_wp_marks Try.func32 rfl trivial ?_ rfl
  simp only [Try.ntmps32, List.size_toArray, List.length_cons, List.length_nil, Nat.reduceAdd, Nat.reduceSub, Array.replicate_succ, Array.replicate_zero, List.push_toArray, List.append_toArray, List.nil_append, List.cons_append]
  refine wpIn_wide.2 ?_
  have hst := Lib.hid (fun (w' w2 : World) (h : SG W1 w.heap.size px low w') (hb : Below w'.heap.size w' w2) => h.step hbx hpx1 hb)
  go_wp2_with fail
  clear hW1
  have s1' := s1.out
  go_region_held3 (fun w' => Below W1.heap.size W1 w' ∧ w'.cell? ⟨w.heap.size, 0, none⟩ = some (.pointer (some ⟨px, 0, none⟩)) ∧ w'.cell? ⟨px, 1, none⟩ = some (.int .i64 (low : Int))) (first | exact s1' | exact hs)
    (first
    | (go_at_call 40; refine (f1.out _ s1').mono ?_; rintro e w2 ⟨rfl, hs⟩)
    | (go_at_call 41; refine (f2.out _ hs).mono ?_; rintro e w3 ⟨rfl, hs⟩)
    | (go_at_call 60; refine (f3.out _ hs).mono ?_; rintro e w4 ⟨rfl, hs⟩))
  all_goals go_wp2_with fail
  have s2 := hst.out _ _ hs (bl_drew (Below.refl _ _))
  go_region_held3 (fun w' => Below W1.heap.size W1 w' ∧ w'.cell? ⟨w.heap.size, 0, none⟩ = some (.pointer (some ⟨px, 0, none⟩)) ∧ w'.cell? ⟨px, 1, none⟩ = some (.int .i64 (low : Int))) (first | exact s2 | exact hs | exact hst.out _ _ hs (bl_alloc (Below.refl _ _) _))
    (first
    | (go_at_call 60; (first | (refine (f3.out _ s2).mono ?_; rintro e w5 ⟨rfl, hs⟩) | (refine (f3.out _ hs).mono ?_; rintro e w6 ⟨rfl, hs⟩))))
  have hs2 := hst.out _ _ hs (bl_alloc (Below.refl _ _) (.cells #[.int .i64 n, .int .i64 (IntKind.i64.wrap ((low : Int) - 1)), .int .i64 (low : Int), .int .i64 (IntKind.i64.wrap ((high : Int) - 1)), .int .i64 (high : Int)] 3))
  have hrow := Blk.new w6 3 [.int .i64 n, .int .i64 (IntKind.i64.wrap ((low : Int) - 1)), .int .i64 (low : Int), .int .i64 (IntKind.i64.wrap ((high : Int) - 1)), .int .i64 (high : Int)]
  generalize IntKind.i64.wrap ((low : Int) - 1) = q1 at *
  generalize IntKind.i64.wrap ((high : Int) - 1) = q3 at *
  obtain ⟨W2, hW2⟩ : ∃ W2, w6.alloc (.cells #[.int .i64 n, .int .i64 q1, .int .i64 (low : Int), .int .i64 q3, .int .i64 (high : Int)] 3) = W2 := ⟨_, rfl⟩
  rw [hW2] at hs2
  replace hrow : Blk W2 w6.heap.size 3 [.int .i64 n, .int .i64 q1, .int .i64 (low : Int), .int .i64 q3, .int .i64 (high : Int)] := by rw [← hW2]; exact hrow
  obtain ⟨E, hE⟩ : ∃ E : Nat → Int, ∀ j, j < 5 → W2.cell? ⟨w6.heap.size, 0 + j, none⟩ = some (.int .i64 (E j)) := ⟨fun j => [n, q1, (low : Int), q3, (high : Int)].getD j 0, fun j hj => by
    rw [hrow.cell (0 + j)]
    match j, hj with
    | 0, _ => rfl
    | 1, _ => rfl
    | 2, _ => rfl
    | 3, _ => rfl
    | 4, _ => rfl⟩
  have h6 := hrow.lt
  clear hrow
  replace hE := Lib.hid hE
  go_wp2_with fail
  go_loopw [48] (fun i wr => ∃ k : Nat, k ≤ 5 ∧ i = .int .i64 (k : Int) ∧ SG W1 w.heap.size px low wr ∧ Below W2.heap.size W2 wr) (fun i _ => 5 - (intOf i).toNat)
  case atStart => exact ⟨0, by omega, rfl, by rw [hW2]; exact hs2, by rw [hW2]; exact Below.refl _ _⟩
  case round =>
    obtain ⟨k, hk, rfl, hsg, hbw⟩ := hrel
    have hx0 := hsg.2.1
    have hx1 := hsg.2.2
    by_cases hlt : k < 5
    · have c1 := (hbw.cell (p := ⟨w6.heap.size, 0 + k, none⟩) h6).trans (hE.out k hlt)
      rw [Nat.zero_add] at c1
      have g4 := f4.out (E k) wr hsg
      have g5 := fun m => f5.out (E k) (wr.drewN m) (hst.out _ _ hsg (bl_drewN (Below.refl _ _) m))
      generalize (atV low xs (E k)).1 = A at *
      generalize (atV low xs (E k)).2 = B at *
      generalize E k = ek at *
      replace g4 := Lib.hid g4
      replace g5 := Lib.hid g5
      go_wp2_with (first
        | (go_at_call 39; refine g4.out.mono ?_; rintro e wA ⟨rfl, mA, rfl⟩)
        | (go_at_call 61; refine (g5.out _).mono ?_; rintro e wB ⟨rfl, mB, rfl⟩))
      all_goals go_roundw
      case measure => simp [intOf]; omega
      case rel => exact ⟨k + 1, by omega, by go_num, hst.out _ _ hsg (bl_drewN (Below.refl _ _) _), bl_drewN hbw _⟩
    · have hk5 : k = 5 := by omega
      subst hk5
      have hfn := func_ne_nil24
      have bI := Boxed.new wr 3 (.int .i64 0)
      have hring2 := hring.below (bl_trans hb1 (bl_trans hsg.1 (bl_alloc (Below.refl wr.heap.size wr) (.cells #[.int .i64 0] 3))))
      have hall := all_int (wr.alloc (.cells #[.int .i64 0] 3)) p g room low high hring2 (by omega) (fun j => .int .i64 (xs.getD j 0)) (fun j => ⟨_, rfl⟩) (fun j hj => by
        have hjx : j < xs.length := by omega
        rw [hroom, List.getD_eq_getElem?_getD, List.getElem?_eq_getElem hjx]
        exact hvals j hjx)
      replace hall := Lib.hid hall
      go_wp2_with fail
      refine hall.out.mono ?_
      rintro e wA ⟨la, lo, a', cap', rfl, ha, hlo, hla, hlo2, hlol, hvs, hbA⟩
      have hszA := hbA.size
      rw [World.size_alloc] at hla hlo2 hbA hszA hvs
      have hlen : high - low = xs.length := by omega
      rw [hlen] at ha hvs
      have bIA : Boxed wA wr.heap.size 3 (.int .i64 0) := (hbA.block _ (by omega)).trans bI
      have hbwA : Below wr.heap.size wr wA := (bl_alloc (Below.refl wr.heap.size wr) _).trans (hbA.mono (by omega))
      have hvs2 : Vals (fun k => k = wr.heap.size ∨ wA.heap.size ≤ k) wA (.slice a' xs.length cap') xs.length (fun j => .int .i64 (xs.getD j 0)) := by
        rcases hvs with h | ⟨b2, o2, c2, e2, hn2, hb2, hc2⟩
        · exact .inl h
        · exact .inr ⟨b2, o2, c2, e2, by omega, hb2, hc2⟩
      subst hla hlo2
      go_wp2_with fail
      refine (wpIn_wide (n := 5)).1 ?_
      refine range_through rfl (show 1 ≤ 5 by omega) (gf := 67) (lb := #[.pointer (some ⟨wr.heap.size + 1, 0, none⟩), .pointer (some ⟨wr.heap.size + 1 + 1, 0, none⟩)]) rfl trivial (enters_of Try.func67 (by kernel_rfl) rfl)
        (ringSeq_int _ _ (fun k => k = wr.heap.size ∨ wA.heap.size ≤ k) (low : Int) (by omega) a' xs.length cap' (fun j => .int .i64 (xs[j]?.getD 0)) (by omega) wA ⟨by omega, by omega⟩ ⟨by omega, by omega⟩ (fun k hk => .inr hk) ha hlo hvs2) (Below.refl _ _) (fun k hk => .inr hk) (fun _ => rfl)
        (fun pre A => Boxed A wr.heap.size 3 (.int .i64 (pre.length : Int)) ∧ Below wr.heap.size wr A)
        (fun c pre A => c = .ret ∧ Mis low xs pre)
        (OwnFrom.and (Own.from (fun s A B row hs hg hr => hs.kept hg (fun e' => by obtain ⟨o, ho, hc⟩ := hr _ e'.symm; rw [show A.heap[wr.heap.size]? = _ from hs] at ho; cases ho; cases hc)) _) (ownFrom_below (Nat.le_refl _) (by omega)))
        (fun c s A B row hs hg hr => hs)
        ⟨bIA, hbwA⟩
        ?a1 ?assign ?body ?done ?stop
      case assign =>
        intro l x A K hK
        gi_wp2
        exact hK
      case body =>
        rintro l pre x A ⟨hbi, hbe⟩ hlen
        have hWA : Below W1.heap.size W1 A := hsg.1.trans (hbe.mono hsg.1.size)
        have hwA : Below w.heap.size w A := bl_trans hb1 hWA
        have k0 := hbi.cell
        have k0f := hbi.frozen
        have k1 := (hWA.cell (p := ⟨w.heap.size, 0, none⟩) hbx).trans bX.cell
        have bT : Boxed A (w.heap.size + 1) 4 (.bool false) := (hWA.block _ bR.lt).trans bR
        have k3 := bT.cell
        have k4 := bT.frozen
        have hszw : wr.heap.size < wA.heap.size := by omega
        have hszR : w.heap.size + 1 < wA.heap.size := by have := bR.lt; have := hsg.1.size; omega
        have hRi : w.heap.size + 1 < wr.heap.size := by have := bR.lt; have := hsg.1.size; omega
        obtain ⟨ra, rc, hb, r1, r2, r3⟩ := (hM.below hwA).ref
        have c1 := hb.cell 1
        have c2 := hb.cell 2
        simp at c1 c2
        rcases r3 with ⟨_, r0⟩ | ⟨b, o, rfl, _, _, _, hc⟩
        · omega
        · have cx := hc pre.length xs[pre.length] (by simp [hlen])
          have hz : xs.getD pre.length 0 = xs[pre.length] := by rw [List.getD_eq_getElem?_getD, List.getElem?_eq_getElem hlen]; rfl
          have hmis : ∀ h : ¬ (wrap64 ((low : Int) + (x : Int)) = (low : Int) + (pre.length : Int) ∧ xs[x]?.getD 0 = xs[pre.length]), Mis low xs (pre ++ [x]) := fun h => ⟨pre, x, rfl, fun h' => h ⟨h'.2.1, by rw [← hz, ← List.getD_eq_getElem?_getD]; exact h'.2.2⟩⟩
          replace hmis := Lib.hid hmis
          have hpl : (pre.length : Int) < xs.length := by omega
          have hset := fun v => KeepsUp.setCell (B := wA.heap.size) A (p := ⟨w.heap.size + 1, 0, none⟩) hszR v
          have hset2 := fun v => KeepsUp.setCell (B := wA.heap.size) A (p := ⟨wr.heap.size, 0, none⟩) hszw v
          have hI2 : Boxed (A.setCell ⟨wr.heap.size, 0, none⟩ (.int .i64 ((pre.length : Int) + 1))) wr.heap.size 3 (.int .i64 ((pre ++ [x]).length : Int)) := by
            have := hbi.set (.int .i64 ((pre.length : Int) + 1))
            simpa using this
          have hbe2 := hbe.setCell (p := ⟨wr.heap.size, 0, none⟩) (Nat.le_refl _) (.int .i64 ((pre.length : Int) + 1))
          have hon2 := (Only.refl (fun k => k = wr.heap.size ∨ wA.heap.size ≤ k) A).setCell (p := ⟨wr.heap.size, 0, none⟩) (.inl rfl) (.int .i64 ((pre.length : Int) + 1))
          have hpl2 : (pre.length : Int) ≤ 1000 := by omega
          generalize hpn : pre.length = i at *
          replace hset := Lib.hid hset
          replace hset2 := Lib.hid hset2
          replace hI2 := Lib.hid hI2
          replace hz := Lib.hid hz
          replace hpn := Lib.hid hpn
          generalize xs[i] = z at *
          generalize xs[x]?.getD 0 = y at *
          generalize wrap64 ((low : Int) + (x : Int)) = t at *
          clear hc hb f1 f2 f3 f4 f5 hE hall hvs hvs2 hM hvals hring hring2 hbi hst stp s1
          have hmo : Try.prog.follows .mixedOrders = true := by kernel_rfl
          have hwr : IntKind.i64.wrap ((low : Int) + (i : Int)) = (low : Int) + i := by
            simp [IntKind.wrap, IntKind.signed, IntKind.bits]
            omega
          by_cases e1 : t = (low : Int) + i
          · by_cases e2 : y = z
            · gi_wp2
              (refine region_quiet_round _ rfl (by kernel_rfl) (by kernel_rfl) (by kernel_rfl) ?_)
              repeat (quiet_step_in (fail))
              refine wpQuietIn_nil ?_
              intro _ hw'
              obtain ⟨nq, hw''⟩ := hw'
              subst hw''
              gi_wp2
              exact ⟨⟨(hset2.out (.int .i64 ((i : Int) + 1))).size, (hset2.out (.int .i64 ((i : Int) + 1))).same⟩, ⟨hon2.os, hon2.tape, hon2.output, hon2.size, hon2.block⟩, hI2.out, ⟨hbe2.os, hbe2.tape, hbe2.output, hbe2.size, hbe2.block⟩⟩
            · have e3 : (y != z) = true := by simpa using e2
              gi_wp2
              (refine region_quiet_round _ rfl (by kernel_rfl) (by kernel_rfl) (by kernel_rfl) ?_)
              repeat (quiet_step_in (fail))
              refine wpQuietIn_nil ?_
              intro _ hw'
              obtain ⟨nq, hw''⟩ := hw'
              subst hw''
              gi_wp2
              exact ⟨⟨(hset.out (.bool false)).size, (hset.out (.bool false)).same⟩, rfl, hmis.out (fun h => e2 h.2)⟩
          · gi_wp2
            (refine region_quiet_round _ rfl (by kernel_rfl) (by kernel_rfl) (by kernel_rfl) ?_)
            repeat (quiet_step_in (fail))
            refine wpQuietIn_nil ?_
            intro _ hw'
            obtain ⟨nq, hw''⟩ := hw'
            subst hw''
            gi_wp2
            exact ⟨⟨(hset.out (.bool false)).size, (hset.out (.bool false)).same⟩, rfl, hmis.out (fun h => e1 h.1)⟩
      case done =>
        rintro D ys A hD rfl ⟨hbi, hbe⟩ hK
        have hWA : Below W1.heap.size W1 A := hsg.1.trans (hbe.mono hsg.1.size)
        have hwA : Below w.heap.size w A := bl_trans hb1 hWA
        have k0 := hbi.cell
        rw [List.length_range] at k0
        have k1 := (hWA.cell (p := ⟨w.heap.size, 0, none⟩) hbx).trans bX.cell
        have k2 := (hwA.cell (p := ⟨px, 2, none⟩) hpx).trans x2
        have bT : Boxed A (w.heap.size + 1) 4 (.bool false) := (hWA.block _ bR.lt).trans bR
        have k3 := bT.cell
        have k4 := bT.frozen
        have hDA : D < A.heap.size := (Array.getElem?_eq_some_iff.1 hK).1
        go_wp2_with fail
        go_region
        all_goals go_wp2_with fail
        all_goals
          have hK2 : ((A.setCell ⟨w.heap.size + 1, 0, none⟩ (.bool true)).drew).heap[D]? = some (.deferred (some [])) := (KeepsOthers.setCell A ⟨w.heap.size + 1, 0, none⟩ (.bool true)).same D _ hK rfl
          have hD0 : w.heap.size ≤ D := by have := hsg.1.size; omega
          refine ⟨by simp, .inl ⟨_, _, rfl, run_takeDeferred hK2, ?_⟩⟩
          have hc5 := cell_kept (W := (A.setCell ⟨w.heap.size + 1, 0, none⟩ (.bool true)).drew) (bT.set (.bool true)).cell (grownBy_putObj' _ D (.deferred none)) (fun r e => by cases e; exact ⟨_, hK2, rfl⟩)
          refine ⟨.bool true, ?_, rfl, (bl_drew (bl_setCell hwA (p := ⟨w.heap.size + 1, 0, none⟩) (by show w.heap.size ≤ w.heap.size + 1; omega) _)).trans (belowK_b (w := w) (Nat.le_refl _) _ D _ _ hD0 hK2 rfl rfl)⟩
          simp [results, Try.f32, go_sem, hc5]
      case stop =>
        rintro D c pre A hD ⟨k, hk, rfl⟩ ⟨rfl, hm⟩ hK
        exact absurd hm (no_mis hk hsm)
end Go.Proofs.Ytfbimghnimepjaa
