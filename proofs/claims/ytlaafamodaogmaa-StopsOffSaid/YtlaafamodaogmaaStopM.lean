/-
  StopsOff: the walk; of chapter 28.
  Conditions: as each theorem states them.
-/
import Derived.Test.YtlaafamodaogmaaStopL
import Derived.Test.YtlaafamodaogmaaGreat
import Derived.Deep.DeepCutAuto
namespace Go.Proofs.Ytlaafamodaogmaa
open Go.RowKit
set_option linter.unusedVariables false
set_option linter.unusedSimpArgs false
attribute [local go_sem ↓] load_st
open CM (Sv)
theorem addS_er {full : Bool} {kind n : Int} {s : List UInt8} {a x : Int} (h : addS full kind n s = .error (a, x)) : x ≠ 0 := by
  unfold addS at h
  split at h
  · split at h
    · injection h with h; injection h with _ h; omega
    · split at h
      · injection h with h; injection h with _ h; omega
      · cases h
  · split at h
    · split at h
      · injection h with h; injection h with _ h; omega
      · split at h
        · injection h with h; injection h with _ h; omega
        · cases h
    · split at h
      · split at h
        · rename_i hp
          injection h with h; injection h with _ h
          have := CM.parse_er hp
          omega
        · split at h
          · injection h with h; injection h with _ h; omega
          · cases h
      · injection h with h; injection h with _ h; omega
def hitB (kind n : Int) (o : Option CM.M) (was now : Sv) : Bool := if kind = 0 then now.phase == 1 && now.pc == n else if kind = 1 then now.line == n && was.line != n else match o with | none => false | some phi => phi was now
theorem hits_single (x : Stp) (h : x.off = false) (v1 v2 : Sv) : (hitsS [x] v1 v2).length = if hitB x.kind x.n x.phi v1 v2 then 1 else 0 := by
  have h2 : hitS x v1 v2 = hitB x.kind x.n x.phi v1 v2 := by unfold hitS hitB; rw [if_neg (by simp [h])]; cases x.phi <;> rfl
  unfold hitsS
  rw [List.length_map, List.filter_cons, h2]
  cases hitB x.kind x.n x.phi v1 v2 <;> rfl
theorem get_nil' (id : Int) (W : World) : Calls Try.prog 25 #[.pointer none, .int .i64 id] W fun e w' => e = .returned (.tuple #[.agg #[.int .i64 0, .int .i64 0, .int .i64 0, .string ⟨#[]⟩, .bool false], .bool false]) ∧ Below W.heap.size W w' := get_nil id W
theorem add_nil' (kind n : Int) (t : List UInt8) (w : World) : Calls Try.prog 20 #[.pointer none, .int .i64 kind, .int .i64 n, strV t] w fun e w' => e = .returned (.tuple #[.int .i64 0, .int .i64 0, .int .i64 1]) ∧ w = w' := add_nil kind n _ w
set_option maxHeartbeats 16000000 in
set_option maxRecDepth 100000 in
theorem stopsOff_list (kind n : Int) (t : List UInt8) (hlt : t.length ≤ 140737488351232) (s1 s2 : StC) (b1 b2 : StB) (W : World) (hr1 : RawAt W s1 b1) (hr2 : RawAt W s2 b2) (hm : MxAt W) :
    Calls Try.prog 8 #[.int .i64 kind, .int .i64 n, strV t, .agg s1.cells.toArray, .agg s2.cells.toArray] W fun e w' => e = .returned (.bool true) ∧ Below W.heap.size W w' := by
  obtain ⟨W1, hW1⟩ : ∃ W1, W.alloc (.cells s1.cells.toArray 34) = W1 := ⟨_, rfl⟩
  obtain ⟨W2, hW2⟩ : ∃ W2, W1.alloc (.cells s2.cells.toArray 34) = W2 := ⟨_, rfl⟩
  have hB : Below W.heap.size W W2 := by rw [← hW2, ← hW1]; exact bl_alloc (bl_alloc (Below.refl _ _) _) _
  have hB1 : Blk W2 W.heap.size 34 s1.cells := by rw [← hW2, ← hW1]; exact (Blk.new W _ _).alloc _
  have hB2 : Blk W2 (W.heap.size + 1) 34 s2.cells := by
    rw [show W.heap.size + 1 = W1.heap.size by rw [← hW1]; simp, ← hW2]; exact Blk.new W1 _ _
  obtain ⟨C1, hC1⟩ : ∃ C, s1.cells.toArray = C := ⟨_, rfl⟩
  obtain ⟨C2, hC2⟩ : ∃ C, s2.cells.toArray = C := ⟨_, rfl⟩
  have hW : (W.alloc (.cells C1 34)).alloc (.cells C2 34) = W2 := by rw [← hC1, ← hC2, hW1, hW2]
  have hLd := Lib.hid (fun w' (hw : Below W2.heap.size W2 w') => (⟨hC1 ▸ stLoad_is s1 (hB1.below hw), hC2 ▸ stLoad_is s2 (hB2.below hw)⟩ : (stLoad ⟨W.heap.size, 0, none⟩).run Try.prog w' = .ok (.agg C1) w' ∧ (stLoad ⟨W.heap.size + 1, 0, none⟩).run Try.prog w' = .ok (.agg C2) w'))
  have hgr1 := Lib.hid (fun w' (hw : Below W2.heap.size W2 w') => (by have := great_any s1 b1 w' (hr1.below (bl_trans hB hw)); rw [hC1] at this; exact this : Calls Try.prog 24 #[.agg C1] w' fun e w2 => e = .returned (.bool (greatB s1 b1)) ∧ Below w'.heap.size w' w2))
  have hgr2 := Lib.hid (fun w' (hw : Below W2.heap.size W2 w') => (by have := great_any s2 b2 w' (hr2.below (bl_trans hB hw)); rw [hC2] at this; exact this : Calls Try.prog 24 #[.agg C2] w' fun e w2 => e = .returned (.bool (greatB s2 b2)) ∧ Below w'.heap.size w' w2))
  have hfin := Lib.hid (fun w' (hw : Below W2.heap.size W2 w') => (awake28 w' (hm.below (bl_trans hB hw))).mono (R' := fun e w2 => e = .returned (.bool true) ∧ Below W.heap.size W w2) (fun e w2 he => ⟨he.1, bl_trans hB (bl_trans hw he.2)⟩))
  have hsv := Lib.hid (fun (hg : greatB s1 b1 = false) (hg2 : greatB s2 b2 = false) w' (hw : Below W2.heap.size W2 w') => (⟨(hr1.sv hg).below (bl_trans hB hw), (hr2.sv hg2).below (bl_trans hB hw), hm.below (bl_trans hB hw)⟩ : StSv w' s1 (svOf s1 b1) ∧ StSv w' s2 (svOf s2 b2) ∧ MxAt w'))
  have l1 : W.heap.size < W2.heap.size := hB1.lt
  have l2 : W.heap.size + 1 < W2.heap.size := hB2.lt
  have hBB : Below W2.heap.size W2 W2 := Below.refl _ _
  obtain ⟨L1, L2⟩ := hLd.out _ hBB
  replace hW := Lib.hid hW
  obtain ⟨G1, hG1⟩ : ∃ G, greatB s1 b1 = G := ⟨_, rfl⟩
  obtain ⟨G2, hG2⟩ : ∃ G, greatB s2 b2 = G := ⟨_, rfl⟩
  rw [hG1] at hgr1 hsv
  rw [hG2] at hgr2 hsv
  obtain ⟨v1, hv1⟩ : ∃ v, svOf s1 b1 = v := ⟨_, rfl⟩
  obtain ⟨v2, hv2⟩ : ∃ v, svOf s2 b2 = v := ⟨_, rfl⟩
  rw [hv1, hv2] at hsv
  rw [hC1, hC2]
  replace hC1 := Lib.hid hC1
  replace hC2 := Lib.hid hC2
  clear hr1 hr2 hB1 hB2 hW1 hW2 hm hB hG1 hG2 hv1 hv2
  by_cases h100 : 100 < t.length
  · have q0 : decide ((100 : Int) < t.length) = true := by rw [decide_eq_true_eq]; omega
    clear hsv hgr1 hgr2
    go_enter Try.func8, Try.ntmps8
    go_upto_region 1 with fail
    rw [hW.out]
    go_wp2_with (go_at_call 23; refine (hfin.out _ hBB).mono ?_; rintro e w6 ⟨rfl, hb6⟩)
    go_ret
    exact ⟨rfl, hb6⟩
  have q0 : decide ((100 : Int) < t.length) = false := by rw [decide_eq_false_iff_not]; omega
  have q0' : ¬ 100 < t.length := h100
  cases G1 with
  | true =>
    clear hsv hgr2
    go_enter Try.func8, Try.ntmps8
    go_upto_region 1 with fail
    rw [hW.out]
    go_wp2_with (first
      | (go_at_call 24; (with_reducible refine (hgr1.out _ hBB).mono ?_); rintro e w5 ⟨rfl, hb5⟩)
      | (go_at_call 23; refine (hfin.out _ hb5).mono ?_; rintro e w6 ⟨rfl, hb6⟩))
    go_ret
    exact ⟨rfl, hb6⟩
  | false =>
  cases G2 with
  | true =>
    clear hsv
    go_enter Try.func8, Try.ntmps8
    go_upto_region 1 with fail
    rw [hW.out]
    go_wp2_with (first
      | (go_at_call 24; first
        | ((with_reducible refine (hgr1.out _ hBB).mono ?_); rintro e w5 ⟨rfl, hb5⟩; obtain ⟨L3, L4⟩ := hLd.out _ hb5)
        | ((with_reducible refine (hgr2.out _ hb5).mono ?_); rintro e w6 ⟨rfl, hb6⟩; have hb6' := bl_trans hb5 hb6))
      | (go_at_call 23; refine (hfin.out _ hb6').mono ?_; rintro e w7 ⟨rfl, hb7⟩))
    go_ret
    exact ⟨rfl, hb7⟩
  | false =>
  have hsv2 := Lib.hid (hsv.out rfl rfl)
  have hnil := Lib.hid (fun w' => hits_nil s1 s2 w')
  rw [hC1.out, hC2.out] at hnil
  clear hsv
  go_enter Try.func8, Try.ntmps8
  go_upto_region 1 with fail
  rw [hW.out]
  go_upto_region 8 with (first
      | (go_at_call 24; first
        | ((with_reducible refine (hgr1.out _ hBB).mono ?_); rintro e w5 ⟨rfl, hb5⟩; obtain ⟨L3, L4⟩ := hLd.out _ hb5)
        | ((with_reducible refine (hgr2.out _ hb5).mono ?_); rintro e w6 ⟨rfl, hb6⟩; have hb6' := bl_trans hb5 hb6))
      | (go_at_call 20; refine (add_nil' _ _ _ _).mono ?_; rintro e w7 ⟨rfl, rfl⟩)
      | (go_at_call 25; refine (get_nil' _ _).mono ?_; rintro e w8 ⟨rfl, hb8⟩; have hb8' := bl_trans hb6' hb8)
      | (go_at_call 21; refine (delete_nil _ _).mono ?_; rintro e w9 ⟨rfl, hb9⟩; have hb9' := bl_trans (bl_alloc hb8' _) hb9; obtain ⟨L5, L6⟩ := hLd.out _ hb9')
      | (go_at_call 26; refine (turn_nil _ _ _).mono ?_; rintro e w10 ⟨rfl, rfl⟩)
      | (go_at_call 22; refine (all_nil _).mono ?_; rintro e w11 ⟨rfl, rfl⟩)
      | (go_at_call 27; (with_reducible refine (hnil.out _).mono ?_); rintro e w12 ⟨rfl, hb12⟩; have hb12' := bl_trans hb9' hb12))
  have hb0 := Lib.hid hb12'
  clear hb5 hb6 hb6' hb8 hb8' hb9 hb9' hb12 hb12' L1 L2 hgr1 hgr2 hnil hBB q0 q0' h100
  generalize hV : w12.heap.size = N at *
  have hnw := Lib.hid (new_stops N w12 (by omega))
  have hbW := Lib.hid (fun w' (hb : Below N w12 w') => (by rw [← hV] at hb; exact bl_trans hb0.out hb : Below W2.heap.size W2 w'))
  have hszN := Lib.hid (fun w' (hb : Below N w12 w') => (by have := hb.size; omega : N ≤ w'.heap.size))
  have hLx := Lib.hid (fun w' (hb : Below N w12 w') => hLd.out w' (hbW.out w' hb))
  have hstep := Lib.hid (fun w' w3 (hb : Below N w12 w') (h3 : Below w'.heap.size w' w3) => hb.trans (h3.mono (hszN.out w' hb)))
  have hHit := Lib.hid (fun L la w' p (h : StopsAt N w' p L la) (hl : L.length ≤ 32) (hb : Below N w12 w') => (by
    obtain ⟨h1, h2, h3⟩ := hsv2.out w' (hbW.out w' hb)
    have := hits_any h (by omega) h1 h2 h3
    rw [hC1.out, hC2.out] at this
    refine this.mono fun e w3 ⟨v, h4, h5, h6⟩ => ?_
    obtain ⟨a, c, rfl⟩ := own_slice h5
    exact ⟨a, c, h4, h.below h6, hstep.out w' w3 hb h6⟩ : Calls Try.prog 27 #[.pointer (some ⟨p, 0, none⟩), .agg C1, .agg C2] w' fun e w3 => ∃ a c, e = .returned (.slice a (hitsS L v1 v2).length c) ∧ StopsAt N w3 p L la ∧ Below N w12 w3))
  have hAll := Lib.hid (fun w' p (h : StopsAt N w' p [] 0) (hb : Below N w12 w') => (by
    refine (all_any h (by simp)).mono fun e w3 ⟨v, h4, h5, h6⟩ => ?_
    obtain ⟨a, c, rfl⟩ := own_slice h5
    exact ⟨a, c, h4, hstep.out w' w3 hb h6⟩ : Calls Try.prog 22 #[.pointer (some ⟨p, 0, none⟩)] w' fun e w3 => ∃ a c, e = .returned (.slice a 0 c) ∧ Below N w12 w3))
  have hend := Lib.hid (fun w' (hb : Below N w12 w') => hfin.out w' (hbW.out w' hb))
  have hb00 : Below N w12 w12 := Below.refl _ _
  cases hq : addS false kind n t with
  | error e =>
    obtain ⟨a, x⟩ := e
    have hx : (x != 0) = true := by have := addS_er hq; simpa using this
    have hA1 := Lib.hid (fun w' p (h : StopsAt N w' p [] 0) (hb : Below N w12 w') => (add_bad kind n t w' h (hszN.out w' hb) (by simp) (by omega) (by omega) (a := a) (x := x) hq).mono (R' := fun e w3 => e = .returned (.tuple #[.int .i64 0, .int .i64 a, .int .i64 x]) ∧ StopsAt N w3 p [] 0 ∧ Below N w12 w3) (fun e w3 he => ⟨he.1, he.2.1, hb.trans he.2.2⟩))
    clear hq hHit hLx
    go_wp2_with (first
      | (go_at_call 19; refine hnw.out.mono ?_; rintro e x1 ⟨p, rfl, hS1, hx1⟩; have hb1 := hstep.out _ _ hb00 hx1)
      | (go_at_call 20; (with_reducible refine (hA1.out _ _ hS1 hb1).mono ?_); rintro e x2 ⟨rfl, hS2, hb2⟩)
      | (go_at_call 22; (with_reducible refine (hAll.out _ _ hS2 hb2).mono ?_); rintro e x3 ⟨a3, c3, rfl, hb3⟩)
      | (go_at_call 23; refine (hend.out _ hb3).mono ?_; rintro e x4 ⟨rfl, hb4⟩))
    go_ret
    exact ⟨rfl, hb4⟩
  | ok o =>
    -- the breakpoint, on and off
    have hA := Lib.hid (fun w' p la (h : StopsAt N w' p [] la) (h0 : 0 ≤ la) (h1 : la ≤ 100) (hb : Below N w12 w') => (by
      refine (add_any kind n t w' h (hszN.out w' hb) (by simp) h0 (by omega)).mono fun e w3 ⟨h2, h3⟩ => ?_
      unfold AddIs at h2
      rw [show (([] : List Stp).length == 32) = false from rfl, hq] at h2
      obtain ⟨h4, c, h5, h6⟩ := h2
      exact ⟨h4, c, h6, h5, hb.trans h3⟩ : Calls Try.prog 20 #[.pointer (some ⟨p, 0, none⟩), .int .i64 kind, .int .i64 n, strV t] w' fun e w3 => e = .returned (.tuple #[.int .i64 (la + 1), .int .i64 0, .int .i64 0]) ∧ ∃ c, c.map (fun t => t.2.2.2) = o ∧ StopsAt N w3 p [⟨la + 1, kind, newN kind n, newC kind t, false, c⟩] (la + 1) ∧ Below N w12 w3))
    have hA1 := Lib.hid (fun w' p (h : StopsAt N w' p [] 0) (hb : Below N w12 w') => (hA.out w' p 0 h (by omega) (by omega) hb : Calls Try.prog 20 #[.pointer (some ⟨p, 0, none⟩), .int .i64 kind, .int .i64 n, strV t] w' fun e w3 => e = .returned (.tuple #[.int .i64 1, .int .i64 0, .int .i64 0]) ∧ ∃ c, c.map (fun t => t.2.2.2) = o ∧ StopsAt N w3 p [⟨1, kind, newN kind n, newC kind t, false, c⟩] 1 ∧ Below N w12 w3))
    have hA2 := Lib.hid (fun w' p (h : StopsAt N w' p [] 1) (hb : Below N w12 w') => (hA.out w' p 1 h (by omega) (by omega) hb : Calls Try.prog 20 #[.pointer (some ⟨p, 0, none⟩), .int .i64 kind, .int .i64 n, strV t] w' fun e w3 => e = .returned (.tuple #[.int .i64 2, .int .i64 0, .int .i64 0]) ∧ ∃ c, c.map (fun t => t.2.2.2) = o ∧ StopsAt N w3 p [⟨2, kind, newN kind n, newC kind t, false, c⟩] 2 ∧ Below N w12 w3))
    obtain ⟨K, hK⟩ : ∃ K, (if hitB kind (newN kind n) o v1 v2 then 1 else 0 : Nat) = K := ⟨_, rfl⟩
    have hKx : ∀ id c, c.map (fun (t : Nat × Nat × Nat × CM.M) => t.2.2.2) = o → (hitsS [⟨id, kind, newN kind n, newC kind t, false, c⟩] v1 v2).length = K := fun id c hc => by
      rw [hits_single _ rfl, ← hK, ← hc]
      rfl
    have hH1 := Lib.hid (fun id c la w' p (hc : c.map (fun (t : Nat × Nat × Nat × CM.M) => t.2.2.2) = o) (h : StopsAt N w' p [⟨id, kind, newN kind n, newC kind t, false, c⟩] la) (hb : Below N w12 w') => (by have := hHit.out _ la w' p h (by simp) hb; rw [hKx id c hc] at this; exact this : Calls Try.prog 27 #[.pointer (some ⟨p, 0, none⟩), .agg C1, .agg C2] w' fun e w3 => ∃ a c', e = .returned (.slice a K c') ∧ StopsAt N w3 p [⟨id, kind, newN kind n, newC kind t, false, c⟩] la ∧ Below N w12 w3))
    have hH0 := Lib.hid (fun id c la w' p (h : StopsAt N w' p [⟨id, kind, newN kind n, newC kind t, true, c⟩] la) (hb : Below N w12 w') => (by have := hHit.out _ la w' p h (by simp) hb; exact this : Calls Try.prog 27 #[.pointer (some ⟨p, 0, none⟩), .agg C1, .agg C2] w' fun e w3 => ∃ a c', e = .returned (.slice a 0 c') ∧ StopsAt N w3 p [⟨id, kind, newN kind n, newC kind t, true, c⟩] la ∧ Below N w12 w3))
    have hHE := Lib.hid (fun la w' p (h : StopsAt N w' p [] la) (hb : Below N w12 w') => (by have := hHit.out _ la w' p h (by simp) hb; exact this : Calls Try.prog 27 #[.pointer (some ⟨p, 0, none⟩), .agg C1, .agg C2] w' fun e w3 => ∃ a c', e = .returned (.slice a 0 c') ∧ StopsAt N w3 p [] la ∧ Below N w12 w3))
    have hT0 := Lib.hid (fun c w' p (h : StopsAt N w' p [⟨1, kind, newN kind n, newC kind t, false, c⟩] 1) (hb : Below N w12 w') => ((turn_any h (hszN.out w' hb) (by simp) 1 false).mono (fun e w3 he => ⟨he.1, he.2.1, hb.trans he.2.2⟩) : Calls Try.prog 26 #[.pointer (some ⟨p, 0, none⟩), .int .i64 1, .bool false] w' fun e w3 => e = .returned (.int .i64 0) ∧ StopsAt N w3 p [⟨1, kind, newN kind n, newC kind t, true, c⟩] 1 ∧ Below N w12 w3))
    have hT1 := Lib.hid (fun c w' p (h : StopsAt N w' p [⟨1, kind, newN kind n, newC kind t, true, c⟩] 1) (hb : Below N w12 w') => ((turn_any h (hszN.out w' hb) (by simp) 1 true).mono (fun e w3 he => ⟨he.1, he.2.1, hb.trans he.2.2⟩) : Calls Try.prog 26 #[.pointer (some ⟨p, 0, none⟩), .int .i64 1, .bool true] w' fun e w3 => e = .returned (.int .i64 0) ∧ StopsAt N w3 p [⟨1, kind, newN kind n, newC kind t, false, c⟩] 1 ∧ Below N w12 w3))
    have hTE := Lib.hid (fun w' p (h : StopsAt N w' p [] 1) (hb : Below N w12 w') => ((turn_any h (hszN.out w' hb) (by simp) 1 true).mono (fun e w3 he => ⟨he.1, he.2.1, hb.trans he.2.2⟩) : Calls Try.prog 26 #[.pointer (some ⟨p, 0, none⟩), .int .i64 1, .bool true] w' fun e w3 => e = .returned (.int .i64 6) ∧ StopsAt N w3 p [] 1 ∧ Below N w12 w3))
    have hD1 := Lib.hid (fun c w' p (h : StopsAt N w' p [⟨1, kind, newN kind n, newC kind t, false, c⟩] 1) (hb : Below N w12 w') => ((delete_any h (hszN.out w' hb) (by simp) 1).mono (fun e w3 he => ⟨he.1, he.2.1, hb.trans he.2.2⟩) : Calls Try.prog 21 #[.pointer (some ⟨p, 0, none⟩), .int .i64 1] w' fun e w3 => e = .returned (.int .i64 0) ∧ StopsAt N w3 p [] 1 ∧ Below N w12 w3))
    have hDE := Lib.hid (fun w' p (h : StopsAt N w' p [] 1) (hb : Below N w12 w') => ((delete_any h (hszN.out w' hb) (by simp) 1).mono (fun e w3 he => ⟨he.1, he.2.1, hb.trans he.2.2⟩) : Calls Try.prog 21 #[.pointer (some ⟨p, 0, none⟩), .int .i64 1] w' fun e w3 => e = .returned (.int .i64 6) ∧ StopsAt N w3 p [] 1 ∧ Below N w12 w3))
    replace hK := Lib.hid hK
    clear hKx hA hHit hAll hsv2 hq
    go_wp2_with (first
      | (go_at_call 19; refine hnw.out.mono ?_; rintro e x1 ⟨p, rfl, hS1, hx1⟩; have hb1 := hstep.out _ _ hb00 hx1)
      | (go_at_call 20; (first
        | ((with_reducible refine (hA1.out _ _ hS1 hb1).mono ?_); rintro e x2 ⟨rfl, c, hc, hS2, hb2⟩; replace hc := Lib.hid hc; obtain ⟨L1, L2⟩ := hLx.out _ hb2)
        | ((with_reducible refine (hA2.out _ _ hS11 hb11).mono ?_); rintro e x12 ⟨rfl, c2, hc2, hS12, hb12⟩; replace hc2 := Lib.hid hc2; obtain ⟨L1, L2⟩ := hLx.out _ hb12)))
      | (go_at_call 27; (first
        | ((with_reducible refine (hH1.out _ _ _ _ _ hc.out hS2 hb2).mono ?_); rintro e x3 ⟨a3, c3, rfl, hS3, hb3⟩; obtain ⟨L1, L2⟩ := hLx.out _ hb3)
        | ((with_reducible refine (hH0.out _ _ _ _ _ hS4 hb4).mono ?_); rintro e x5 ⟨a5, c5, rfl, hS5, hb5⟩; obtain ⟨L1, L2⟩ := hLx.out _ hb5)
        | ((with_reducible refine (hH1.out _ _ _ _ _ hc.out hS6 hb6).mono ?_); rintro e x7 ⟨a7, c7, rfl, hS7, hb7⟩; obtain ⟨L1, L2⟩ := hLx.out _ hb7)
        | ((with_reducible refine (hHE.out _ _ _ hS10 hb10).mono ?_); rintro e x11 ⟨a11, c11, rfl, hS11, hb11⟩; obtain ⟨L1, L2⟩ := hLx.out _ hb11)
        | ((with_reducible refine (hH1.out _ _ _ _ _ hc2.out hS12 hb12).mono ?_); rintro e x13 ⟨a13, c13, rfl, hS13, hb13⟩)))
      | (go_at_call 26; (first
        | ((with_reducible refine (hT0.out _ _ _ hS3 hb3).mono ?_); rintro e x4 ⟨rfl, hS4, hb4⟩; obtain ⟨L1, L2⟩ := hLx.out _ hb4)
        | ((with_reducible refine (hT1.out _ _ _ hS5 hb5).mono ?_); rintro e x6 ⟨rfl, hS6, hb6⟩; obtain ⟨L1, L2⟩ := hLx.out _ hb6)
        | ((with_reducible refine (hTE.out _ _ hS9 hb9).mono ?_); rintro e x10 ⟨rfl, hS10, hb10⟩; obtain ⟨L1, L2⟩ := hLx.out _ hb10)))
      | (go_at_call 21; (first
        | ((with_reducible refine (hD1.out _ _ _ hS7 hb7).mono ?_); rintro e x8 ⟨rfl, hS8, hb8⟩)
        | ((with_reducible refine (hDE.out _ _ hS8 hb8).mono ?_); rintro e x9 ⟨rfl, hS9, hb9⟩)))
      | (go_at_call 23; refine (hend.out _ hb13).mono ?_; rintro e x14 ⟨rfl, hb14⟩))
    go_ret
    exact ⟨rfl, hb14⟩
end Go.Proofs.Ytlaafamodaogmaa
