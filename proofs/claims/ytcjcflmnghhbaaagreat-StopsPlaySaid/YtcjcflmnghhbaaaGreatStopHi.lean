/-
  stop.hits, Stops.Hits; of chapter 28.
  Conditions: as each theorem states them.
-/
import Derived.Test.YtcjcflmnghhbaaaGreatStopG
import Derived.Test.YtcjcflmnghhbaaaGreatCondAw
namespace Go.Proofs.YtcjcflmnghhbaaaGreat
open Go.RowKit
set_option linter.unusedVariables false
set_option linter.unusedSimpArgs false
attribute [local go_sem ↓] load_st
open CM (Sv)
/-- does a breakpoint stop? -/
def hitS (x : Stp) (was now : Sv) : Bool :=
  if x.off then false else if x.kind = 0 then now.phase == 1 && now.pc == x.n else if x.kind = 1 then now.line == x.n && was.line != x.n else match x.phi with
    | none => false
    | some phi => phi was now
set_option maxHeartbeats 4000000 in
set_option maxRecDepth 100000 in
theorem hits_one {W : World} {x : Stp} {s1 s2 : StC} {v1 v2 : Sv} (h1 : StSv W s1 v1) (h2 : StSv W s2 v2) (hm : MxAt W) (hx : ∀ cb lo hi phi, x.c = some (cb, lo, hi, phi) → ∃ t, CondIs W cb t phi) :
    Calls Tryz.prog 26 #[.agg x.cells.toArray, .agg s1.cells.toArray, .agg s2.cells.toArray] W fun e w' => e = .returned (.bool (hitS x v1 v2)) ∧ Below W.heap.size W w' := by
  have hB1 : Blk (((W.alloc (.cells x.cells.toArray 75)).alloc (.cells s1.cells.toArray 35)).alloc (.cells s2.cells.toArray 35)) W.heap.size 75 x.cells := ((Blk.new W _ _).alloc _).alloc _
  have hB2 : Blk (((W.alloc (.cells x.cells.toArray 75)).alloc (.cells s1.cells.toArray 35)).alloc (.cells s2.cells.toArray 35)) (W.heap.size + 1) 35 s1.cells := by
    have := (Blk.new (W.alloc (.cells x.cells.toArray 75)) 35 s1.cells).alloc (.cells s2.cells.toArray 35)
    rw [size_alloc] at this; exact this
  have hB3 : Blk (((W.alloc (.cells x.cells.toArray 75)).alloc (.cells s1.cells.toArray 35)).alloc (.cells s2.cells.toArray 35)) (W.heap.size + 1 + 1) 35 s2.cells := by
    have := Blk.new ((W.alloc (.cells x.cells.toArray 75)).alloc (.cells s1.cells.toArray 35)) 35 s2.cells
    rw [size_alloc, size_alloc] at this; exact this
  have hb : Below W.heap.size W (((W.alloc (.cells x.cells.toArray 75)).alloc (.cells s1.cells.toArray 35)).alloc (.cells s2.cells.toArray 35)) := bl_alloc (bl_alloc (bl_alloc (Below.refl _ _) _) _) _
  obtain ⟨C1, hC1⟩ : ∃ C, s1.cells.toArray = C := ⟨_, rfl⟩
  obtain ⟨C2, hC2⟩ : ∃ C, s2.cells.toArray = C := ⟨_, rfl⟩
  obtain ⟨CX, hCX⟩ : ∃ C, x.cells.toArray = C := ⟨_, rfl⟩
  obtain ⟨W3, hW3⟩ : ∃ W3, ((W.alloc (.cells x.cells.toArray 75)).alloc (.cells s1.cells.toArray 35)).alloc (.cells s2.cells.toArray 35) = W3 := ⟨_, rfl⟩
  rw [hW3] at hB1 hB2 hB3 hb
  have x0 : W3.cell? ⟨W.heap.size, 4, none⟩ = some (.bool x.off) := hB1.cell 4
  have x1 : W3.cell? ⟨W.heap.size, 1, none⟩ = some (.int .i64 x.kind) := hB1.cell 1
  have x2 : W3.cell? ⟨W.heap.size, 2, none⟩ = some (.int .i64 x.n) := hB1.cell 2
  have x5 : W3.cell? ⟨W.heap.size, 5, none⟩ = some (.pointer x.ptr) := hB1.cell 5
  have y3 : W3.cell? ⟨W.heap.size + 1, 3, none⟩ = some (.int .i64 s1.line) := hB2.cell 3
  have z3 : W3.cell? ⟨W.heap.size + 1 + 1, 3, none⟩ = some (.int .i64 s2.line) := hB3.cell 3
  have z15 : W3.cell? ⟨W.heap.size + 1 + 1, 15, none⟩ = some (.int .i64 s2.phase) := hB3.cell 15
  have z16 : W3.cell? ⟨W.heap.size + 1 + 1, 16, none⟩ = some (.int .i64 s2.pc) := hB3.cell 16
  have L1 := stLoad_is s1 hB2
  have L2 := stLoad_is s2 hB3
  rw [hC1] at L1
  rw [hC2] at L2
  have l1 := hB1.lt
  have l2 := hB2.lt
  have l3 := hB3.lt
  have hnil := Lib.hid (holds_nil s1 s2 W3)
  rw [hC1, hC2] at hnil
  have hyes := Lib.hid (fun c t phi (hc : CondIs W3 c t phi) => holds_any hc (h1.below hb) (h2.below hb) (hm.below hb))
  rw [hC1, hC2] at hyes
  rw [hC1, hC2, hCX] at hW3
  replace hx := Lib.hid (fun cb lo hi phi e => (hx cb lo hi phi e).imp fun t h => h.below hb)
  have e1 : v1.line = s1.line := h1.line
  have e2 : v2.line = s2.line := h2.line
  have e3 : v2.phase = s2.phase := h2.phase
  have e4 : v2.pc = s2.pc := h2.pc
  replace hb := Lib.hid hb
  rw [hC1, hC2, hCX]
  clear hC1 hC2 hCX hB1 hB2 hB3 h1 h2 hm
  have hpost := Lib.hid (fun (B : Bool) (w' : World) (h1 : hitS x v1 v2 = B) (h2 : Below W3.heap.size W3 w') => (⟨by rw [h1], bl_trans hb.out h2⟩ : Ending.returned (.bool B) = .returned (.bool (hitS x v1 v2)) ∧ Below W.heap.size W w'))
  replace hW3 := Lib.hid hW3
  have hh : ∀ B, (if x.off then false else if x.kind = 0 then v2.phase == 1 && v2.pc == x.n else if x.kind = 1 then v2.line == x.n && v1.line != x.n else match x.phi with | none => false | some phi => phi v1 v2) = B → hitS x v1 v2 = B := fun B h => h
  rw [e1, e2, e3, e4] at hh
  replace hh := Lib.hid hh
  clear e1 e2 e3 e4
  have q0 : Below W3.heap.size W3 W3 := Below.refl _ _
  generalize hitS x v1 v2 = H at *
  unfold Stp.ptr at x5
  unfold Stp.phi at hh
  obtain ⟨id, kind, n, cond, off, c⟩ := x
  simp only at *
  cases off with
  | true =>
    have hr := Lib.hid (hpost.out false W3 (hh.out false (by simp)) q0)
    clear hyes hnil hx hh hpost
    go_enter Tryz.func26, Tryz.ntmps26
    go_upto_block 0 with fail
    rw [hW3.out]
    go_wp2_with fail
    go_ret
    exact hr.out
  | false =>
    by_cases k0 : kind = 0
    · subst k0
      by_cases hp : s2.phase = 1
      · have hr := Lib.hid (hpost.out (s2.pc == n) W3 (hh.out _ (by simp [hp])) q0)
        clear hyes hnil hx hh hpost
        go_enter Tryz.func26, Tryz.ntmps26
        go_upto_block 0 with fail
        rw [hW3.out]
        go_wp2_with fail
        go_ret
        exact hr.out
      · have hq : (s2.phase == 1) = false := by simpa using hp
        have hr := Lib.hid (hpost.out false W3 (hh.out _ (by simp [hp])) q0)
        clear hyes hnil hx hh hpost hp
        go_enter Tryz.func26, Tryz.ntmps26
        go_upto_block 0 with fail
        rw [hW3.out]
        go_wp2_with fail
        go_ret
        exact hr.out
    · have hq0 : (kind == 0) = false := by simpa using k0
      by_cases k1 : kind = 1
      · subst k1
        by_cases hp : s2.line = n
        · subst hp
          have hr := Lib.hid (hpost.out (s1.line != s2.line) W3 (hh.out _ (by simp)) q0)
          clear hyes hnil hx hh hpost
          go_enter Tryz.func26, Tryz.ntmps26
          go_upto_block 0 with fail
          rw [hW3.out]
          go_wp2_with fail
          go_ret
          exact hr.out
        · have hq : (s2.line == n) = false := by simpa using hp
          have hr := Lib.hid (hpost.out false W3 (hh.out _ (by simp [hp])) q0)
          clear hyes hnil hx hh hpost hp
          go_enter Tryz.func26, Tryz.ntmps26
          go_upto_block 0 with fail
          rw [hW3.out]
          go_wp2_with fail
          go_ret
          exact hr.out
      · have hq1 : (kind == 1) = false := by simpa using k1
        have hh2 := Lib.hid (fun B (h : (match Option.map (fun t => t.2.2.2) c with | none => false | some phi => phi v1 v2) = B) => hh.out B (by rw [if_neg (by simp), if_neg k0, if_neg k1]; exact h))
        clear hh k0 k1
        cases c with
        | none =>
          have hr := Lib.hid (fun w' (h : Below W3.heap.size W3 w') => hpost.out false w' (hh2.out _ rfl) h)
          simp only [Option.map_none] at x5
          clear hyes hx hh2 hpost
          go_enter Tryz.func26, Tryz.ntmps26
          go_upto_block 0 with fail
          rw [hW3.out]
          go_wp2_with (go_at_call 37; (with_reducible refine hnil.out.mono ?_); rintro e w4 ⟨rfl, hb4⟩)
          go_ret
          exact hr.out _ hb4
        | some c =>
          obtain ⟨cb, lo, hi, phi⟩ := c
          obtain ⟨t, hc⟩ := hx.out cb lo hi phi rfl
          have hcl := Lib.hid (hyes.out cb t phi hc)
          have hr := Lib.hid (fun w' (h : Below W3.heap.size W3 w') => hpost.out (phi v1 v2) w' (hh2.out _ rfl) h)
          simp only [Option.map_some] at x5
          clear hyes hx hh2 hpost hnil hc
          go_enter Tryz.func26, Tryz.ntmps26
          go_upto_block 0 with fail
          rw [hW3.out]
          go_wp2_with (go_at_call 37; (with_reducible refine hcl.out.mono ?_); rintro e w4 ⟨rfl, hb4⟩)
          go_ret
          exact hr.out _ hb4
end Go.Proofs.YtcjcflmnghhbaaaGreat
/-
  Stops.Hits; of chapter 28.
  Conditions: as each theorem states them.
-/
namespace Go.Proofs.YtcjcflmnghhbaaaGreat
open Go.RowKit
set_option linter.unusedVariables false
set_option linter.unusedSimpArgs false
attribute [local go_sem ↓] load_st
open CM (Sv)
/-- the numbers of those that stop -/
def hitsS (l : List Stp) (was now : Sv) : List Int := (l.filter fun x => hitS x was now).map (·.id)
theorem hitsS_snoc {l : List Stp} {was now : Sv} {i : Nat} (h : i < l.length) : hitsS (l.take (i + 1)) was now = hitsS (l.take i) was now ++ if hitS l[i] was now = true then [l[i].id] else [] := by
  unfold hitsS
  rw [List.take_succ_eq_append_getElem h, List.filter_append, List.map_append]
  cases hb : hitS l[i] was now <;> simp [hb]
theorem hitsS_len (l : List Stp) (was now : Sv) : (hitsS l was now).length ≤ l.length := by
  unfold hitsS; rw [List.length_map]; exact List.length_filter_le _ _
set_option maxHeartbeats 4000000 in
set_option maxRecDepth 100000 in
theorem hits_nil (s1 s2 : StC) (W : World) : Calls Tryz.prog 16 #[.pointer none, .agg s1.cells.toArray, .agg s2.cells.toArray] W fun e w' => e = .returned (.slice none 0 0) ∧ Below W.heap.size W w' := by
  generalize s1.cells.toArray = C1
  generalize s2.cells.toArray = C2
  go_enter Tryz.func16, Tryz.ntmps16
  go_wp2_with fail
  go_ret
  exact ⟨rfl, bl_alloc (bl_alloc (Below.refl _ _) _) _⟩
theorem ownsRow_base {w : World} {b0 b1 : Nat} {e : TypeId} {size : Nat} {v : Value} {n : Nat} {xs : List Value} (h : w.ownsRow b1 e size v n xs) (hb : b0 ≤ b1) : w.ownsRow b0 e size v n xs := by
  refine ⟨h.1, ?_⟩
  rcases h.2 with h | ⟨g, cap, cur, h1, h2, h3⟩
  · exact .inl h
  · exact .inr ⟨g, cap, cur, h1, Nat.le_trans hb h2, h3⟩
theorem infoI : (Tryz.prog.info? 3).map (fun i => (i.zero, i.size, i.bytes)) = some (some (.int .i64 0), 1, 8) := by kernel_rfl
theorem one_int (n : Int) : ∀ u ∈ [Value.int .i64 n], u.oneCell' = true := by
  intro u hu; simp only [List.mem_cons, List.not_mem_nil, or_false] at hu; subst hu; rfl
set_option maxHeartbeats 4000000 in
set_option maxRecDepth 100000 in
theorem hits_any {N : Nat} {W : World} {p : Nat} {l : List Stp} {last : Int} {s1 s2 : StC} {v1 v2 : Sv} (h : StopsAt N W p l last) (hl : l.length ≤ 1000000) (h1 : StSv W s1 v1) (h2 : StSv W s2 v2) (hm : MxAt W) :
    Calls Tryz.prog 16 #[.pointer (some ⟨p, 0, none⟩), .agg s1.cells.toArray, .agg s2.cells.toArray] W fun e w' => ∃ v, e = .returned v ∧ w'.ownsRow W.heap.size 3 1 v (hitsS l v1 v2).length ((hitsS l v1 v2).map (Value.int .i64)) ∧ Below W.heap.size W w' := by
  obtain ⟨i0, hi0, hz0, hz1, hz2⟩ := info_parts infoI
  obtain ⟨v, hR⟩ := h
  have hB1 : Blk ((W.alloc (.cells s1.cells.toArray 35)).alloc (.cells s2.cells.toArray 35)) W.heap.size 35 s1.cells := (Blk.new W _ _).alloc _
  have hB2 : Blk ((W.alloc (.cells s1.cells.toArray 35)).alloc (.cells s2.cells.toArray 35)) (W.heap.size + 1) 35 s2.cells := by
    have := (Blk.new (W.alloc (.cells s1.cells.toArray 35)) 35 s2.cells)
    rw [size_alloc] at this; exact this
  have hb0 : Below W.heap.size W ((W.alloc (.cells s1.cells.toArray 35)).alloc (.cells s2.cells.toArray 35)) := bl_alloc (bl_alloc (Below.refl _ _) _) _
  obtain ⟨C1, hC1⟩ : ∃ C, s1.cells.toArray = C := ⟨_, rfl⟩
  obtain ⟨C2, hC2⟩ : ∃ C, s2.cells.toArray = C := ⟨_, rfl⟩
  obtain ⟨W2, hW2⟩ : ∃ W2, (W.alloc (.cells s1.cells.toArray 35)).alloc (.cells s2.cells.toArray 35) = W2 := ⟨_, rfl⟩
  rw [hW2] at hB1 hB2 hb0
  have hLd := Lib.hid (fun w' (hw : Below W2.heap.size W2 w') => (⟨hC1 ▸ stLoad_is s1 (hB1.below hw), hC2 ▸ stLoad_is s2 (hB2.below hw)⟩ : (stLoad ⟨W.heap.size, 0, none⟩).run Tryz.prog w' = .ok (.agg C1) w' ∧ (stLoad ⟨W.heap.size + 1, 0, none⟩).run Tryz.prog w' = .ok (.agg C2) w'))
  have hcl := Lib.hid (fun x (hx : x ∈ l) w' (hw : Below W2.heap.size W2 w') => (by
    have hw0 := bl_trans hb0 hw
    have := hits_one (x := x) (h1.below hw0) (h2.below hw0) (hm.below hw0) (fun cb lo hi phi e => ((hR.conds x hx).below hw0).is e)
    rw [hC1, hC2] at this
    exact this : Calls Tryz.prog 26 #[.agg x.cells.toArray, .agg C1, .agg C2] w' fun e w2 => e = .returned (.bool (hitS x v1 v2)) ∧ Below w'.heap.size w' w2))
  rw [hC1, hC2] at hW2
  have hl1 := hB1.lt
  have hl2 := hB2.lt
  have k0 : W2.cell? ⟨p, 0, none⟩ = some v := (hb0.cell (p := ⟨p, 0, none⟩) hR.blk.lt).trans (hR.blk.cell 0)
  have hp : p < W2.heap.size := Nat.lt_of_lt_of_le hR.blk.lt hb0.size
  replace hW2 := Lib.hid hW2
  rw [hC1, hC2]
  have hrow := row_elem hR.row
  clear hR hB1 hB2 h1 h2 hm hC1 hC2
  rcases hrow with ⟨rfl, rfl⟩ | ⟨g, cap, rfl, hN, hg, hcap, hmx, hel⟩
  · go_enter Tryz.func16, Tryz.ntmps16
    go_upto_region 1 with fail
    rw [hW2.out]
    go_wp2_with fail
    go_loopg [7, 17] 0 (fun gh o v wr => o = .slice none 0 0 ∧ v = .int .i64 0 ∧ W2 = wr)
    case atStart => exact ⟨rfl, rfl, rfl⟩
    case round =>
      obtain ⟨rfl, rfl, rfl⟩ := hrel
      go_wp2_with fail
      go_ret
      exact ⟨_, rfl, World.ownsRow_nil _ _ _ _, hb0⟩
  · have hg2 : g < W2.heap.size := Nat.lt_of_lt_of_le hg hb0.size
    have hel2 := Lib.hid (fun i (hi : i < l.length) wr (hb : Below W2.heap.size W2 wr) j u (hu : (l[i]).cells[j]? = some u) => (hb.cell (p := ⟨g, i * 6 + j, none⟩) hg2).trans ((hb0.cell (p := ⟨g, i * 6 + j, none⟩) hg).trans ((hel i hi).1 j u hu)))
    replace hb0 := Lib.hid hb0
    clear hel
    go_enter Tryz.func16, Tryz.ntmps16
    go_upto_region 1 with fail
    rw [hW2.out]
    go_wp2_with fail
    go_loopg [7, 17] l.length (fun gh o v wr => ∃ i : Nat, gh = l.length - i ∧ v = .int .i64 (i : Int) ∧ i ≤ l.length ∧ Hid (wr.ownsRow W2.heap.size 3 1 o (hitsS (l.take i) v1 v2).length ((hitsS (l.take i) v1 v2).map (Value.int .i64))) ∧ Hid (Below W2.heap.size W2 wr))
    case atStart => exact ⟨0, by omega, rfl, Nat.zero_le _, Lib.hid (World.ownsRow_nil _ _ _ _), Lib.hid (Below.refl _ _)⟩
    case round =>
      obtain ⟨i, rfl, rfl, hi, ho, hbr⟩ := hrel
      by_cases hlt : i < l.length
      · have k0 := hel2.out i hlt wr hbr.out
        have c0 : wr.cell? ⟨g, i * 6, none⟩ = some (.int .i64 (l[i]).id) := by have := k0 0 _ rfl; rwa [Nat.add_zero] at this
        have c1 := k0 1 _ rfl
        have c2 := k0 2 _ rfl
        have c3 := k0 3 _ rfl
        have c4 := k0 4 _ rfl
        have c5 := k0 5 _ rfl
        have hg3 : g < wr.heap.size := Nat.lt_of_lt_of_le hg2 hbr.out.size
        have hsn := hitsS_snoc (was := v1) (now := v2) hlt
        have hln := hitsS_len (l.take i) v1 v2
        have hln2 : (l.take i).length ≤ i := List.length_take_le _ _
        obtain ⟨x, hxe⟩ : ∃ x, l[i] = x := ⟨_, rfl⟩
        have hxm : x ∈ l := hxe ▸ List.getElem_mem hlt
        rw [hxe] at c0 c1 c2 c3 c4 c5 hsn
        have hbA : Below W2.heap.size W2 (wr.alloc (.cells x.cells.toArray 75)) := bl_alloc hbr.out _
        have hcx := Lib.hid (hcl.out x hxm _ hbA)
        obtain ⟨L1, L2⟩ := hLd.out _ hbA
        have hbx := (Blk.new wr 75 x.cells)
        have hidx := Lib.hid (fun w3 (hw : Below (wr.alloc (.cells x.cells.toArray 75)).heap.size (wr.alloc (.cells x.cells.toArray 75)) w3) => (hbx.below hw).cell 0)
        have hBB := (hcl.out x hxm _ hbA)
        unfold Stp.cells at hcx L1 L2
        clear k0 hxm hxe hbx hBB
        obtain ⟨B, hB⟩ : ∃ B, hitS x v1 v2 = B := ⟨_, rfl⟩
        rw [hB] at hcx hsn
        replace hB := Lib.hid hB
        replace hbr := Lib.hid hbr
        have z0 : (0 : Int) ≤ (i : Int) := by omega
        have z1 : (i : Int) < (l.length : Int) := by omega
        replace hsn := Lib.hid hsn
        have hlB := Lib.hid (fun w3 (hw : Below (wr.alloc (.cells x.cells.toArray 75)).heap.size (wr.alloc (.cells x.cells.toArray 75)) w3) => (⟨bl_trans hbA hw, ownsRow_below (ho.out.alloc _) hw, by have := hw.size; simp at this; omega⟩ : Below W2.heap.size W2 w3 ∧ w3.ownsRow W2.heap.size 3 1 _ _ _ ∧ wr.heap.size < w3.heap.size))
        unfold Stp.cells at hidx hlB hbA
        replace hbA := Lib.hid hbA
        cases B
        · go_wp2_with (go_at_call 26; (with_reducible refine hcx.out.mono ?_); rintro e w4 ⟨rfl, hb4⟩; obtain ⟨m1, m2, m3⟩ := hlB.out _ hb4; replace m2 := Lib.hid m2)
          go_roundg (l.length - (i + 1))
          case measure => omega
          case rel => exact ⟨i + 1, rfl, by go_num, by omega, Lib.hid (by rw [hsn.out, if_neg (by simp), List.append_nil]; exact m2.out), Lib.hid m1⟩
        · obtain ⟨oa, oc, rfl⟩ := own_slice ho.out
          go_upto_region 8 with (go_at_call 26; (with_reducible refine hcx.out.mono ?_); rintro e w4 ⟨rfl, hb4⟩; obtain ⟨m1, m2, m3⟩ := hlB.out _ hb4; replace m2 := Lib.hid m2; have i0x := hidx.out _ hb4)
          simp only [List.getElem?_cons_zero] at i0x
          have hsr := Lib.hid (src_new w4 3 [.int .i64 x.id] w4.heap.size rfl)
          have ho2 := Lib.hid (m2.out.alloc (.cells [.int .i64 x.id].toArray 3))
          have hbs : W2.heap.size ≤ (w4.alloc (.cells [.int .i64 x.id].toArray 3)).heap.size := by have := m1.size; simp; omega
          have hgr := Lib.hid (fun w3 (hg : (w4.alloc (.cells [.int .i64 x.id].toArray 3)).grownBy w3 (Value.slice oa (hitsS (l.take i) v1 v2).length oc).ownBlock) => (bl_alloc m1 (.cells [.int .i64 x.id].toArray 3)).grown hg hbs (fun j hj => (ho2.out.lt j hj).1))
          have hone := Lib.hid (one_int x.id)
          replace hbs := Lib.hid hbs
          clear m2
          go_wp2_with (at_builtin; refine wpList_append_src _ (by rfl) (.tmp 25) (.tmp 29) 57 (by rfl) W2.heap.size 3 i0 _ 1 8 Tryz.underlying57 hi0 hz0 hz1 hz2 (by rfl) (by decide) _ _ _ (by rfl) ho2.out _ 1 _ (by rfl) hsr.out rfl hone.out (by unfold maxLen; omega) (by omega) hbs.out ?_; intro v2' w5 ho3 hg3; have hb5 := hgr.out _ hg3; replace ho3 := Lib.hid ho3; replace hg3 := Lib.hid hg3)
          go_roundg (l.length - (i + 1))
          case measure => omega
          case rel => exact ⟨i + 1, rfl, by go_num, by omega, Lib.hid (by rw [hsn.out]; simp only [if_true, List.length_append, List.map_append]; exact ho3.out), Lib.hid hb5⟩
      · obtain rfl : i = l.length := by omega
        rw [List.take_length] at ho
        go_wp2_with fail
        go_ret
        exact ⟨_, rfl, ownsRow_base ho.out hb0.out.size, bl_trans hb0.out hbr.out⟩
end Go.Proofs.YtcjcflmnghhbaaaGreat
