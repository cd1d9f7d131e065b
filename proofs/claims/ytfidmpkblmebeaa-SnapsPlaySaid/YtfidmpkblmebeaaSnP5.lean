/-
  SnapsPlay: the walk; of chapter 25.
  Conditions: as each theorem states them.
-/
import Derived.Test.YtfidmpkblmebeaaSnP4
import Derived.Deep.CutBlock
import Derived.Deep.DeepCutAuto
import Derived.Deep.RegionHeld3
namespace Go.Proofs.Ytfidmpkblmebeaa
open Go.RowKit
set_option linter.unusedVariables false
set_option linter.unusedSimpArgs false
attribute [local go_sem ↓] load_st store_st load_op store_op
theorem op_new (w : World) (s : OpV) : ∃ w', (opStore ⟨w.heap.size, 0, none⟩ (.agg s.cells.toArray)).run Try.prog (w.alloc (.cells #[.int .i64 0, .int .i64 0, .int .i64 0, .slice none 0 0, .slice none 0 0, .bool false, .int .i64 0, .bool false, .int .i64 0, .int .i64 0, .int .i64 0, .int .i64 0, .int .i64 0, .slice none 0 0, .slice none 0 0, .bool false, .slice none 0 0, .bool false, .int .i64 0, .int .i64 0, .int .i64 0, .int .i64 0, .int .i64 0, .bool false, .bool false, .bool false, .slice none 0 0, .slice none 0 0, .slice none 0 0, .slice none 0 0] 45)) = .ok () w' ∧ Blk w' w.heap.size 45 s.cells ∧ Below w.heap.size w w' := by
  obtain ⟨w', h1, h2, h3⟩ := opStore_is s (w := w.alloc (.cells (OpV.cells ⟨0, 0, 0, zeroC, zeroV⟩).toArray 45)) (g := w.heap.size) (Blk.new w _ _) rfl
  exact ⟨w', h1, h2, Below.trans (bl_alloc (Below.refl _ _) _) (Only.below h3 (by simp) (fun i hi => by rw [hi]; exact Nat.le_refl _))⟩
/-- the operations, one by one -/
def OpsIn (W : World) (a : Option Addr) (l : Nat) : Prop := ∀ i, i < l → ∃ (b o : Nat) (x : OpV), a = some ⟨b, o, none⟩ ∧ OpIn W x ∧ b < W.heap.size ∧ ∀ X, Below W.heap.size W X → (opLoad ⟨b, o + i * 30, none⟩).run Try.prog X = .ok (.agg x.cells.toArray) X
/-- behind an operation -/
def AfterOp (w4 : World) (p mb xb n c1 c2 m0 : Nat) (per : Int) (wx : World) : Prop := ∃ (n' : Nat) (L' LR' : List (Int × StC)) (M' : List (Int × StV)), n' ≤ n + 1 ∧ M'.length ≤ m0 + 1 ∧ SnAt wx p mb n' per L' ∧ RefC (xb + 1) c1 c2 wx xb per LR' ∧ KeptC (xb + 1) c1 c2 wx L' M' ∧ KeptC (xb + 1) c1 c2 wx LR' M' ∧ Only (fun j => j = mb ∨ j = xb) w4 wx
theorem AfterOp.two {w4 w5 w6 : World} {p mb xb n c1 c2 m0 n' : Nat} {per : Int} {L' LR' : List (Int × StC)} {M' : List (Int × StV)} (hmp : mb < p) (hpx : p < xb) (hB : xb + 1 ≤ c1) (h12 : c1 ≤ c2) (hn : n' ≤ n + 1) (hM : M'.length ≤ m0 + 1) (hS : SnAt w5 p mb n' per L') (hK : KeptC (xb + 1) c1 c2 w5 L' M') (hO : Only (fun i => i = mb) w4.drew w5)
    (hX : RefC (xb + 1) c1 c2 w6 xb per LR') (hKR : KeptC (xb + 1) c1 c2 w6 LR' M') (hO6 : Only (fun i => i = xb) w5 w6) : AfterOp w4 p mb xb n c1 c2 m0 per w6 :=
  ⟨n', L', LR', M', hn, hM, hS.only hO6 (by show ¬ p = xb; omega) (by show ¬ mb = xb; omega), hX, hK.only hB h12 hO6 (fun j h1 _ h3 => by have h3' : j = xb := h3; omega), hKR,
    (((Only.refl (fun j => j = mb ∨ j = xb) w4).drew).trans (hO.mono (fun j h => .inl h))).trans (hO6.mono (fun j h => .inr h))⟩
theorem keep_len (M : List (Int × StV)) (lo hi : Int) : (SM.keep M lo hi).length ≤ M.length + 1 := Nat.le_succ_of_le (List.length_filter_le _ _)
set_option maxHeartbeats 16000000 in
set_option maxRecDepth 100000 in
theorem snapsPlay_list (W : World) (HC : CopyC) (HR : RCopyC) (per : Int) (a1 : Option Addr) (l1 c1 : Nat) (hlen : l1 ≤ 140737488351232) (hops : OpsIn W a1 l1) :
    Calls Try.prog 3 #[.int .i64 per, .slice a1 l1 c1] W fun e w' => e = .returned (.bool true) ∧ Below W.heap.size W w' := by
  have hAw := Lib.hid (fun w => awake25 w)
  by_cases hper : 1 ≤ per ∧ per ≤ 1000
  rotate_left
  · have hno := Lib.hid (new_no W per (by omega))
    by_cases h1 : per < 1
    · have q0 : decide (per < 1) = true := by simpa using h1
      go_enter Try.func3, Try.ntmps3
      go_wp2_with (first
        | (go_at_call 5; (with_reducible refine hno.out.mono ?_); rintro e W1 ⟨rfl, rfl⟩)
        | (go_at_call 6; (with_reducible refine (hAw.out _).mono ?_); rintro e w2 ⟨rfl, hb2⟩))
      go_ret
      exact ⟨rfl, hb2⟩
    · have q0 : decide (per < 1) = false := by simpa using h1
      have q1 : decide (1000 < per) = true := by simp; omega
      go_enter Try.func3, Try.ntmps3
      go_wp2_with (first
        | (go_at_call 5; (with_reducible refine hno.out.mono ?_); rintro e W1 ⟨rfl, rfl⟩)
        | (go_at_call 6; (with_reducible refine (hAw.out _).mono ?_); rintro e w2 ⟨rfl, hb2⟩))
      go_ret
      exact ⟨rfl, hb2⟩
  have hnew := Lib.hid (new_any W per hper)
  have q0 : decide (per < 1) = false := by simp; omega
  have q1 : decide (1000 < per) = false := by simp; omega
  by_cases hl30 : 30 < l1
  · have q2 : decide (30 < (l1 : Int)) = true := by simp; omega
    go_enter Try.func3, Try.ntmps3
    go_wp2_with (first
      | (go_at_call 5; (with_reducible refine hnew.out.mono ?_); rintro e W1 ⟨p, mb, rfl, _, _, _, _, hb1⟩)
      | (go_at_call 6; (with_reducible refine (hAw.out _).mono ?_); rintro e w2 ⟨rfl, hb2⟩))
    go_ret
    exact ⟨rfl, bl_trans hb1 hb2⟩
  have q2 : decide (30 < (l1 : Int)) = false := by simp; omega
  go_enter Try.func3, Try.ntmps3
  go_upto_region 6 with (go_at_call 5; (with_reducible refine hnew.out.mono ?_); rintro e W1 ⟨p, mb, rfl, hS1, hm1, hp1, hp2, hb1⟩; replace hS1 := Lib.hid hS1; replace hb1 := Lib.hid hb1)
  obtain ⟨xb, hxb⟩ : ∃ xb, W1.heap.size = xb := ⟨_, rfl⟩
  obtain ⟨W2, hW2⟩ : ∃ W2, W1.alloc (.cells #[.int .i64 per, .slice none 0 0] 31) = W2 := ⟨_, rfl⟩
  have hb12 : Below W1.heap.size W1 W2 := by rw [← hW2]; exact bl_alloc (Below.refl _ _) _
  have hX2 : RefAt W2 xb (xb + 1) per [] := ⟨Nat.lt_succ_self _, none, 0, by rw [← hW2, ← hxb]; exact Blk.new W1 31 [.int .i64 per, .slice none 0 0], World.ownsRow_nil _ _ _ _⟩
  have hS2 := Lib.hid (hS1.out.below hb12)
  have hb2 := Lib.hid (bl_trans hb1.out hb12)
  have hWB : W.heap.size < xb + 1 := by have := hb1.out.size; omega
  replace hX2 := Lib.hid hX2
  have hz2 : xb < W2.heap.size := by obtain ⟨_, _, h, _⟩ := hX2.out.ex; exact h.lt
  rw [hxb] at hp2
  clear hS1 hb1 hb12
  replace hW2 := Lib.hid hW2
  go_wp2_with fail
  rw [hW2.out]
  clear hxb hW2 hnew
  go_loopg [8] l1 (fun gh u wr => ∃ (i n : Nat) (L LR : List (Int × StC)) (M : List (Int × StV)), gh = l1 - i ∧ u = .int .i64 (i : Int) ∧ i ≤ l1 ∧ n ≤ i ∧ M.length ≤ i ∧ xb < wr.heap.size ∧ Hid (SnAt wr p mb n per L) ∧ Hid (RefAt wr xb (xb + 1) per LR) ∧ Hid (Kept2 (xb + 1) wr L M) ∧ Hid (Kept2 (xb + 1) wr LR M) ∧ Hid (Below W.heap.size W wr))
  case atStart => exact ⟨0, 0, [], [], [], rfl, rfl, Nat.zero_le _, Nat.le_refl _, Nat.le_refl _, hz2, hS2, hX2, Lib.hid .nil, Lib.hid .nil, hb2⟩
  case round =>
    clear hS2 hX2 hb2 hz2
    obtain ⟨i, n, L, LR, M, rfl, rfl, hi, hn, hM, hxr, hS, hX, hK, hKR, hbr⟩ := hrel
    by_cases hlt : i < l1
    rotate_left
    · obtain rfl : i = l1 := by omega
      clear hS hX hK hKR
      go_wp2_with (go_at_call 6; (with_reducible refine (hAw.out _).mono ?_); rintro e w2 ⟨rfl, hb2⟩)
      go_ret
      exact ⟨rfl, bl_trans hbr.out hb2⟩
    obtain ⟨b, o, x, rfl, hx, hbW, hld⟩ := hops i hlt
    have hit : (i : Int) < (l1 : Int) := by omega
    have hi0 : (0 : Int) ≤ (i : Int) := by omega
    have L10 := hld wr hbr.out
    obtain ⟨w1, S10, hB9, hb1⟩ := op_new wr x
    obtain ⟨g9, hg9⟩ : ∃ g, wr.heap.size = g := ⟨_, rfl⟩
    rw [hg9] at S10 hB9
    have hbW1 := bl_trans hbr.out hb1
    have hsx := hx.s
    have hox := hx.ok
    have hnx := hx.names
    have hnn := hx.n
    obtain ⟨kd, nn, mm, s, V⟩ := x
    obtain ⟨Cx, hCx⟩ : ∃ C, (OpV.cells ⟨kd, nn, mm, s, V⟩).toArray = C := ⟨_, rfl⟩
    rw [hCx] at L10 S10
    have o0 : ∀ X, Below w1.heap.size w1 X → X.cell? ⟨g9, 0, none⟩ = some (.int .i64 kd) ∧ X.cell? ⟨g9, 1, none⟩ = some (.int .i64 nn) ∧ X.cell? ⟨g9, 2, none⟩ = some (.int .i64 mm) ∧ (stLoad ⟨g9, 3, none⟩).run Try.prog X = .ok (.agg s.cells.toArray) X := fun X hX => ⟨(hB9.below hX).cell 0, (hB9.below hX).cell 1, (hB9.below hX).cell 2, op_st _ (hB9.below hX)⟩
    have hs1 := hsx.below hbW1
    have cG := Lib.hid (great_sin hs1 hox hnx)
    have hl9 := hB9.lt
    obtain ⟨y0, y1, y2, y3⟩ := o0 w1 (Below.refl _ _)
    obtain ⟨C, hC⟩ : ∃ C, s.cells.toArray = C := ⟨_, rfl⟩
    rw [hC] at y3 cG
    replace hB9 := Lib.hid hB9
    replace hs1 := Lib.hid hs1
    replace hbW1 := Lib.hid hbW1
    replace hb1 := Lib.hid hb1
    replace o0 := Lib.hid o0
    replace hCx := Lib.hid hCx
    replace hC := Lib.hid hC
    clear hops hld hx hsx
    obtain ⟨G, hG⟩ : ∃ G, greatV V = G := ⟨_, rfl⟩
    rw [hG] at cG
    go_upto_region 11 with fail
    replace hg9 := Lib.hid hg9
    clear L10 S10
    cases G
    rotate_left
    · clear hS hX hK hKR
      go_wp2_with (first
        | (go_at_call 7; (with_reducible refine cG.out.mono ?_); rintro e w2 ⟨rfl, hb2⟩)
        | (go_at_call 6; (with_reducible refine (hAw.out _).mono ?_); rintro e w3 ⟨rfl, hb3⟩))
      go_ret
      exact ⟨rfl, bl_trans hbW1.out (bl_trans hb2 hb3)⟩
    have hsm := small_of hG
    replace hG := Lib.hid hG
    have cC := Lib.hid (fun X (hb : Below w1.heap.size w1 X) => HR X s V _ _ (hs1.out.below hb) hsm)
    rw [hC.out] at cC
    have hstn := Lib.hid (fun X s => st_new X s)
    go_upto_region 14 with (first
      | (go_at_call 7; (with_reducible refine cG.out.mono ?_); rintro e w2 ⟨rfl, hb2⟩; obtain ⟨z0, z1, z2, z3⟩ := o0.out w2 hb2; rw [hC.out] at z3; have hl9' : g9 < w2.heap.size := Nat.lt_of_lt_of_le hl9 hb2.size)
      | (go_at_call 8; (with_reducible refine (cC.out _ hb2).mono ?_); rintro e w3 ⟨sc, rfl, hsc, hb3⟩; obtain ⟨Cc, hCc⟩ : ∃ Cc, sc.cells.toArray = Cc := ⟨_, rfl⟩; obtain ⟨w4, S4, hB10, hb4⟩ := hstn.out w3 sc; rw [hCc] at S4 ⊢))
    obtain ⟨c1', hc1⟩ : ∃ c, w2.heap.size = c := ⟨_, rfl⟩
    obtain ⟨g10, hg10⟩ : ∃ c, w3.heap.size = c := ⟨_, rfl⟩
    rw [hc1, hg10] at hsc
    rw [hg10] at S4 hB10 ⊢
    have hb14 := bl_trans hb2 (bl_trans hb3 hb4)
    have hbr4 := bl_trans hb1.out hb14
    have h3z := hb3.size
    have h4z := hB10.lt
    have hrz : wr.heap.size ≤ w2.heap.size := Nat.le_trans hb1.out.size hb2.size
    have hWr := hbr.out.size
    rw [hc1] at h3z hrz
    rw [hg10] at h3z
    have hB1 : xb + 1 ≤ c1' := by omega
    have hK4 := hK.out.c (c2 := g10) hbr4 hrz (by omega)
    have hKR4 := hKR.out.c (c2 := g10) hbr4 hrz (by omega)
    have hS4 := hS.out.below hbr4
    have hX4 := RefC.of (c2 := g10) hX.out hbr4 hrz
    have hB94 := hB9.out.below hb14
    have hs4 := hs1.out.below hb14
    have hsc4 := hsc.keep (KeepI.below hb4 (Nat.le_of_eq hg10.symm))
    have h9r : g9 < c1' := by rw [← hc1]; exact hl9'
    have hne9 : xb < g9 := by rw [← hg9.out]; exact hxr
    have hF : ∀ X, Only (fun j => j = mb ∨ j = xb) w4 X → (X.cell? ⟨g9, 0, none⟩ = some (.int .i64 kd) ∧ X.cell? ⟨g9, 1, none⟩ = some (.int .i64 nn) ∧ X.cell? ⟨g9, 2, none⟩ = some (.int .i64 mm) ∧ (stLoad ⟨g9, 3, none⟩).run Try.prog X = .ok (.agg C) X ∧ (stLoad ⟨g10, 0, none⟩).run Try.prog X = .ok (.agg Cc) X ∧ X.cell? ⟨g10, 1, none⟩ = some sc.hold.v ∧ g9 < X.heap.size ∧ g10 < X.heap.size) ∧ SIn 0 W.heap.size s V X ∧ SIn c1' g10 sc V X ∧ Blk X g10 43 sc.cells := fun X hO => by
      have k9 := hB94.only hO (by show ¬ (g9 = mb ∨ g9 = xb); omega)
      have k10 := hB10.only hO (by show ¬ (g10 = mb ∨ g10 = xb); omega)
      have e9 := op_st _ k9
      have e10 := stLoad_is sc k10
      rw [hCc] at e10
      exact ⟨⟨k9.cell 0, k9.cell 1, k9.cell 2, by rw [← hC.out]; exact e9, e10, k10.cell 1, k9.lt, k10.lt⟩, hs4.keep (KeepI.only hO hs4.top (fun j _ h2 h3 => by rcases h3 with h3 | h3 <;> omega)), hsc4.keep (KeepI.only hO hsc4.top (fun j h1 _ h3 => by rcases h3 with h3 | h3 <;> omega)), k10⟩
    replace hF := Lib.hid hF
    have hbd4 : Below w4.heap.size w4 w4.drew := bl_drew (Below.refl _ _)
    have hd4 : Only (fun j => j = mb ∨ j = xb) w4 w4.drew := Only.of_below hbd4
    have hLl : L.length ≤ 100000 := by rw [hK.out.len]; omega
    have hLRl : LR.length ≤ 100000 := by rw [hKR.out.len]; omega
    have h5X : ∀ w5, Only (fun j => j = mb) w4.drew w5 → Only (fun j => j = mb) w4 w5 := fun w5 hO => (Only.of_below hbd4).trans hO
    have hz4 : g10 < w4.heap.size := hB10.lt
    have cP := fun (k0 : Int) hk => poffer_k (X := w4.drew) HC (hS4.below hbd4) (by omega) hper k0 hk sc V (hF.out _ hd4).2.2.1 hsm (hK4.only hB1 h3z (K := fun _ => False) (Only.of_below hbd4) (fun _ _ _ h => h)) hB1 h3z (Nat.le_of_lt hz4) (by omega)
    have cR := fun (k0 : Int) w5 (hO : Only (fun j => j = mb) w4.drew w5) => roffer_k (X := w5) HR (hX4.only (h5X w5 hO) (by show ¬ xb = mb; omega) (fun j h1 _ h3 => by have h3' : j = mb := h3; omega)) hLRl hper k0 s V (hF.out _ ((h5X w5 hO).mono (fun j h => .inl h))).2.1 hsm (hKR4.only hB1 h3z (h5X w5 hO) (fun j h1 _ h3 => by have h3' : j = mb := h3; omega)) hB1 h3z (Nat.le_trans (Nat.le_of_lt hz4) hO.size)
    have cPk := fun (lo hi : Int) => pkeep_k (X := w4.drew) (hS4.below hbd4) hLl lo hi (hK4.only hB1 h3z (K := fun _ => False) (Only.of_below hbd4) (fun _ _ _ h => h)) hB1 h3z (by omega)
    have cRk := fun (lo hi : Int) w5 (hO : Only (fun j => j = mb) w4.drew w5) => rkeep_k (X := w5) (hX4.only (h5X w5 hO) (by show ¬ xb = mb; omega) (fun j h1 _ h3 => by have h3' : j = mb := h3; omega)) hLRl lo hi (hKR4.only hB1 h3z (h5X w5 hO) (fun j h1 _ h3 => by have h3' : j = mb := h3; omega)) hB1 h3z (Nat.le_trans (Nat.le_of_lt hz4) hO.size)
    rw [hCc] at cP
    rw [hC.out] at cR
    have hA0 : AfterOp w4 p mb xb n c1' g10 M.length per w4 := ⟨n, L, LR, M, Nat.le_succ _, Nat.le_succ _, hS4, hX4, hK4, hKR4, Only.refl _ _⟩
    have hA2 := fun (w5 w6 : World) (n' : Nat) (L' LR' : List (Int × StC)) (M' : List (Int × StV)) => AfterOp.two (w4 := w4) (w5 := w5) (w6 := w6) (n := n) (n' := n') (m0 := M.length) (per := per) (L' := L') (LR' := LR') (M' := M') hp1 hp2 hB1 h3z
    obtain ⟨⟨u0, u1, u2, u3, u4, u5, u6, u7⟩, -, -, -⟩ := hF.out w4 (Only.refl _ _)
    replace cP := Lib.hid cP
    replace cR := Lib.hid cR
    replace cPk := Lib.hid cPk
    replace cRk := Lib.hid cRk
    replace hA0 := Lib.hid hA0
    have hA2' := Lib.hid hA2
    have hSd : ∀ w5, Only (fun j => j = mb) w4.drew w5 → Only (fun j => j = mb ∨ j = xb) w4 w5 := fun w5 hO => (h5X w5 hO).mono (fun j h => .inl h)
    replace hSd := Lib.hid hSd
    replace hCc := Lib.hid hCc
    replace hbr4 := Lib.hid hbr4
    clear hA2 h5X hS hX hK hKR hS4 hX4 hK4 hKR4 hB94 hs4 hsc4 hB10 hb14 hb3 hb4 hsc S4 hb2 z0 z1 z2 z3 y0 y1 y2 y3 cC cG hs1 hbW1 hb1 hB9 o0 hl9 hl9' hstn
    go_upto_block 2 with fail
    go_cut [11, 12] from 70 to 115 (fun s11 s12 wx => s11 = .bool true ∧ AfterOp w4 p mb xb n c1' g10 M.length per wx)
    case first =>
      have sI := (hF.out _ hd4).1
      by_cases k0 : kd = 0
      · subst k0
        have cP' := cP.out nn hnn
        have hRr := cR.out nn
        obtain ⟨bb, hbb⟩ : ∃ bb, (!noOf per M nn) = bb := ⟨_, rfl⟩
        rw [hbb] at cP' hRr
        replace cP' := Lib.hid cP'
        replace hRr := Lib.hid hRr
        have hbq : (bb == bb) = true := by simp
        replace hbb := Lib.hid hbb
        clear cP cR cPk cRk
        go_upto_region 17 with fail
        go_region_held3 (fun X => X.cell? ⟨g9, 0, none⟩ = some (.int .i64 0) ∧ X.cell? ⟨g9, 1, none⟩ = some (.int .i64 nn) ∧ X.cell? ⟨g9, 2, none⟩ = some (.int .i64 mm) ∧ (stLoad ⟨g9, 3, none⟩).run Try.prog X = .ok (.agg C) X ∧ (stLoad ⟨g10, 0, none⟩).run Try.prog X = .ok (.agg Cc) X ∧ X.cell? ⟨g10, 1, none⟩ = some sc.hold.v ∧ g9 < X.heap.size ∧ g10 < X.heap.size) (first | with_reducible exact sI | with_reducible exact hI5 | with_reducible exact hI6) (first
          | (go_at_call 9; (with_reducible refine (cP').out.mono ?_); rintro e w5 ⟨rfl, n', L', hn', hS5, hK5, hO5⟩; have hO5' := hSd.out w5 hO5; have hI5 := (hF.out w5 hO5').1; have cR' := Lib.hid (hRr.out w5 hO5))
          | (go_at_call 10; (with_reducible refine cR'.out.mono ?_); rintro e w6 ⟨rfl, LR', hX6, hK6, hO6⟩; have hA6 := hA2'.out w5 w6 n' L' LR' _ hn' (offM_len _ _ _ _) hS5 hK5 hO5 hX6 hK6 hO6; have hI6 := (hF.out w6 (by obtain ⟨_, _, _, _, _, _, _, _, _, _, hh⟩ := hA6; exact hh)).1; replace hA6 := Lib.hid hA6))
        go_wp2_with fail
        go_meet
        exact ⟨rfl, hA6.out⟩
      by_cases k1 : kd = 1
      · subst k1
        have cP' := cPk.out nn mm
        have hRr := cRk.out nn mm
        obtain ⟨dd, hdd⟩ : ∃ dd : Int, ((M.length - (SM.keep M nn mm).length : Nat) : Int) = dd := ⟨_, rfl⟩
        rw [hdd] at cP' hRr
        replace cP' := Lib.hid cP'
        replace hRr := Lib.hid hRr
        have hbq : (dd == dd) = true := by simp
        replace hdd := Lib.hid hdd
        clear cP cR cPk cRk
        go_upto_region 19 with fail
        go_region_held3 (fun X => X.cell? ⟨g9, 0, none⟩ = some (.int .i64 1) ∧ X.cell? ⟨g9, 1, none⟩ = some (.int .i64 nn) ∧ X.cell? ⟨g9, 2, none⟩ = some (.int .i64 mm) ∧ (stLoad ⟨g9, 3, none⟩).run Try.prog X = .ok (.agg C) X ∧ (stLoad ⟨g10, 0, none⟩).run Try.prog X = .ok (.agg Cc) X ∧ X.cell? ⟨g10, 1, none⟩ = some sc.hold.v ∧ g9 < X.heap.size ∧ g10 < X.heap.size) (first | with_reducible exact sI | with_reducible exact hI5 | with_reducible exact hI6) (first
          | (go_at_call 11; (with_reducible refine (cP').out.mono ?_); rintro e w5 ⟨rfl, L', hS5, hK5, hO5⟩; have hO5' := hSd.out w5 hO5; have hI5 := (hF.out w5 hO5').1; have cR' := Lib.hid (hRr.out w5 hO5))
          | (go_at_call 12; (with_reducible refine cR'.out.mono ?_); rintro e w6 ⟨rfl, LR', hX6, hK6, hO6⟩; have hA6 := hA2'.out w5 w6 n L' LR' _ (Nat.le_succ _) (keep_len _ _ _) hS5 hK5 hO5 hX6 hK6 hO6; have hI6 := (hF.out w6 (by obtain ⟨_, _, _, _, _, _, _, _, _, _, hh⟩ := hA6; exact hh)).1; replace hA6 := Lib.hid hA6))
        go_wp2_with fail
        go_meet
        exact ⟨rfl, hA6.out⟩
      by_cases k2 : kd = 2
      · subst k2
        obtain ⟨kk, hkk⟩ : ∃ kk, wrap64 (nn.tmod 1000 * per) = kk := ⟨_, rfl⟩
        have hkr : -9223372036854775808 ≤ kk ∧ kk ≤ 9223372036854775807 := by rw [← hkk]; unfold wrap64; omega
        have cP' := cP.out kk hkr
        have hRr := cR.out kk
        obtain ⟨bb, hbb⟩ : ∃ bb, (!noOf per M kk) = bb := ⟨_, rfl⟩
        rw [hbb] at cP' hRr
        replace cP' := Lib.hid cP'
        replace hRr := Lib.hid hRr
        have hbq : (bb == bb) = true := by simp
        replace hbb := Lib.hid hbb
        replace hkk := Lib.hid hkk
        clear cP cR cPk cRk
        go_upto_region 22 with fail
        rw [hkk.out]
        go_region_held3 (fun X => X.cell? ⟨g9, 0, none⟩ = some (.int .i64 2) ∧ X.cell? ⟨g9, 1, none⟩ = some (.int .i64 nn) ∧ X.cell? ⟨g9, 2, none⟩ = some (.int .i64 mm) ∧ (stLoad ⟨g9, 3, none⟩).run Try.prog X = .ok (.agg C) X ∧ (stLoad ⟨g10, 0, none⟩).run Try.prog X = .ok (.agg Cc) X ∧ X.cell? ⟨g10, 1, none⟩ = some sc.hold.v ∧ g9 < X.heap.size ∧ g10 < X.heap.size) (first | with_reducible exact sI | with_reducible exact hI5 | with_reducible exact hI6) (first
          | (go_at_call 9; (with_reducible refine (cP').out.mono ?_); rintro e w5 ⟨rfl, n', L', hn', hS5, hK5, hO5⟩; have hO5' := hSd.out w5 hO5; have hI5 := (hF.out w5 hO5').1; have cR' := Lib.hid (hRr.out w5 hO5))
          | (go_at_call 10; (with_reducible refine cR'.out.mono ?_); rintro e w6 ⟨rfl, LR', hX6, hK6, hO6⟩; have hA6 := hA2'.out w5 w6 n' L' LR' _ hn' (offM_len _ _ _ _) hS5 hK5 hO5 hX6 hK6 hO6; have hI6 := (hF.out w6 (by obtain ⟨_, _, _, _, _, _, _, _, _, _, hh⟩ := hA6; exact hh)).1; replace hA6 := Lib.hid hA6))
        go_wp2_with fail
        go_meet
        exact ⟨rfl, hA6.out⟩
      have r0 : (kd == 0) = false := by simpa using k0
      have r1 : (kd == 1) = false := by simpa using k1
      have r2 : (kd == 2) = false := by simpa using k2
      go_wp2_with fail
      go_meet
      exact ⟨rfl, hA0.out⟩
    case rest =>
      obtain ⟨rfl, n', L', LR', M', hn', hM', hS5, hX5, hK5, hKR5, hO5⟩ := hcut
      obtain ⟨⟨-, v1, v2, -, -, v5, v6, v7⟩, -, hscC, -⟩ := hF.out wc hO5
      have hrow := Lib.hid (TxI.roww hscC.hold (by omega))
      obtain ⟨ha, hhn, hhc, hpe⟩ : ∃ a n c, sc.hold = ⟨a, n, c⟩ := ⟨_, _, _, rfl⟩
      rw [hpe] at hrow v5
      replace v5 : wc.cell? ⟨g10, 1, none⟩ = some (.slice ha hhn hhc) := v5
      have hhl : hhn ≤ 2000 := by have h := hscC.hold.1; have h' := hsm.hold; rw [hpe] at h; have h'' : hhn = _ := h; omega
      have hbWc : Below W.heap.size W wc := (bl_trans hbr.out hbr4.out).trans (hO5.below (by have := hbr4.out.size; omega) (fun j h => by rcases h with h | h <;> omega))
      replace hS5 := Lib.hid hS5
      replace hX5 := Lib.hid hX5
      replace hK5 := Lib.hid hK5
      replace hKR5 := Lib.hid hKR5
      replace hbWc := Lib.hid hbWc
      have hMl : L'.length ≤ 100000 := by rw [hK5.out.len]; omega
      clear hF hA0 hA2' hSd cP cR cPk cRk hscC hO5 hsm hd4 hbd4 u0 u1 u2 u3 u4 u5 u6 u7 hg10 hCc hbr4
      obtain ⟨wo, rfl⟩ : ∃ wo : World, wo = wr := ⟨_, rfl⟩
      go_wp2_with fail
      go_loopg [13] hhn (fun gh u wy => ∃ j : Nat, gh = hhn - j ∧ u = .int .i64 (j : Int) ∧ j ≤ hhn ∧ Hid (Only (fun b => c1' ≤ b ∧ b < g10) wc wy) ∧ Hid (RowW c1' g10 ha hhn wy))
      case atStart => exact ⟨0, rfl, rfl, Nat.zero_le _, Lib.hid (Only.refl _ _), hrow⟩
      case round =>
        obtain ⟨j, rfl, rfl, hj, hO, hR⟩ := hrel
        have a8 : wr.cell? ⟨g10, 1, none⟩ = some (.slice ha hhn hhc) := (World.cell?_of_block (a := ⟨g10, 1, none⟩) (hO.out.block g10 v7 (by show ¬ (c1' ≤ g10 ∧ g10 < g10); omega))).trans v5
        have hl10 : g10 < wr.heap.size := Nat.lt_of_lt_of_le v7 hO.out.size
        by_cases hjt : j < hhn
        · obtain ⟨b', o', z, rfl, e1, e2, e3, e4⟩ := hR.out j hjt
          have hbl : b' < wr.heap.size := Nat.lt_trans e2 hl10
          have hjt' : (j : Int) < (hhn : Int) := by omega
          have hj0 : (0 : Int) ≤ (j : Int) := by omega
          have hfin := Lib.hid (fun z' => (⟨hO.out.setCell (p := ⟨b', o' + j, none⟩) ⟨e1, e2⟩ (.int .u8 z'), hR.out.set hjt z'⟩ : _ ∧ RowW c1' g10 (some ⟨b', o', none⟩) hhn (wr.setCell ⟨b', o' + j, none⟩ (.int .u8 z'))))
          clear v1 v2 v5
          go_wp2_with fail
          go_roundg (hhn - (j + 1))
          case measure => omega
          case rel => exact ⟨j + 1, rfl, by go_num, by omega, Lib.hid (hfin.out _).1, Lib.hid (hfin.out _).2⟩
        · obtain rfl : j = hhn := by omega
          have hSy := hS5.out.only hO.out (by show ¬ (c1' ≤ p ∧ p < g10); omega) (by show ¬ (c1' ≤ mb ∧ mb < g10); omega)
          have hXy := hX5.out.back hO.out (by omega)
          have hKy := hK5.out.k2 hB1 h3z hO.out
          have hKRy := hKR5.out.k2 hB1 h3z hO.out
          have hbWy := hbWc.out.trans (hO.out.below hbWc.out.size (fun j h => by have := h.1; omega))
          have t1 : wr.cell? ⟨g9, 1, none⟩ = some (.int .i64 nn) := (World.cell?_of_block (a := ⟨g9, 1, none⟩) (hO.out.block g9 v6 (by show ¬ (c1' ≤ g9 ∧ g9 < g10); omega))).trans v1
          have t2 : wr.cell? ⟨g9, 2, none⟩ = some (.int .i64 mm) := (World.cell?_of_block (a := ⟨g9, 2, none⟩) (hO.out.block g9 v6 (by show ¬ (c1' ≤ g9 ∧ g9 < g10); omega))).trans v2
          have tl : g9 < wr.heap.size := Nat.lt_of_lt_of_le v6 hO.out.size
          have hnum := numbers_any hSy.blk hSy.map hSy.rise (by omega)
          have hsame := fun (k : Int) X (hb : Below wr.heap.size wr X) => same_any HC (hSy.below hb) (hXy.below hb) (hKy.below hb) (hKRy.below hb) hMl k
          have hkeys : ∀ k (h1 : k < LR'.length) (h2 : k < L'.length), (LR'[k]).1 = (L'[k]).1 := fun k h1 h2 => (hKR5.out.get k h1 (by rw [← hKR5.out.len]; exact h1)).trans (hK5.out.get k h2 (by rw [← hKR5.out.len]; exact h1)).symm
          have hll : LR'.length = L'.length := by rw [hKR5.out.len, hK5.out.len]
          obtain ⟨ax, cx, hBx, hRx⟩ := hXy.ex
          rw [hll] at hBx hRx
          have hx1 := fun X (hb : Below wr.heap.size wr X) => (⟨(hBx.below hb).cell 1, (hBx.below hb).lt⟩ : X.cell? ⟨xb, 1, none⟩ = some (.slice ax L'.length cx) ∧ xb < X.heap.size)
          obtain ⟨kf, hkf⟩ : ∃ kf : Nat → Int, kf = fun k => ((L'.map Prod.fst)[k]?).getD 0 := ⟨_, rfl⟩
          have hrowx : ∀ X, Below wr.heap.size wr X → ∀ k, k < L'.length → ∃ gx, ax = some ⟨gx, 0, none⟩ ∧ gx < X.heap.size ∧ X.cell? ⟨gx, k * 28, none⟩ = some (.int .i64 (kf k)) := fun X hb k hk => by
            obtain ⟨gx, e1, _, e2, e3⟩ := row_at (L := LR') (by rw [hll]; exact own_below hRx hb) (i := k) (by omega)
            refine ⟨gx, e1, e2, ?_⟩
            rw [(e3 k (by omega)).1, hkeys k (by omega) hk, hkf]
            simp [hk]
          have hrowm : ∀ X base v, NumAt X base v (L'.map Prod.fst) → ∃ a c, v = .slice a L'.length c ∧ ∀ k, k < L'.length → ∃ gm, a = some ⟨gm, 0, none⟩ ∧ base ≤ gm ∧ gm < X.heap.size ∧ X.cell? ⟨gm, k, none⟩ = some (.int .i64 (kf k)) := fun X base v hN => by
            obtain ⟨a, c, e, h⟩ := hN.slice
            have hlm : (L'.map Prod.fst).length = L'.length := List.length_map _
            rw [hlm] at e
            refine ⟨a, c, e, fun k hk => ?_⟩
            obtain ⟨gm, e1, e2, e3, e4⟩ := h (by rw [hlm]; omega)
            refine ⟨gm, e1, e2, e3, ?_⟩
            rw [e4 k (by rw [hlm]; exact hk), hkf]
            simp [hk]
          obtain ⟨q, hq⟩ : ∃ q, L'.length = q := ⟨_, rfl⟩
          have hnum' : Calls Try.prog 13 #[.pointer (some ⟨p, 0, none⟩)] wr fun e w' => ∃ a c, e = .returned (.slice a L'.length c) ∧ (∀ k, k < L'.length → ∃ gm, a = some ⟨gm, 0, none⟩ ∧ wr.heap.size ≤ gm ∧ gm < w'.heap.size ∧ w'.cell? ⟨gm, k, none⟩ = some (.int .i64 (kf k))) ∧ Below wr.heap.size wr w' := hnum.mono (by
            rintro e w' ⟨v, rfl, hN, hb⟩
            obtain ⟨a, c, rfl, h⟩ := hrowm w' wr.heap.size v (by unfold NumAt; rw [List.length_map]; exact hN)
            exact ⟨a, c, rfl, h, hb⟩)
          rw [hq] at hnum' hx1 hrowx hMl
          have hcy : ∀ X, Below wr.heap.size wr X → X.cell? ⟨g9, 1, none⟩ = some (.int .i64 nn) ∧ X.cell? ⟨g9, 2, none⟩ = some (.int .i64 mm) ∧ g9 < X.heap.size := fun X hb => ⟨(hb.cell (p := ⟨g9, 1, none⟩) tl).trans t1, (hb.cell (p := ⟨g9, 2, none⟩) tl).trans t2, Nat.lt_of_lt_of_le tl hb.size⟩
          have hqq : ((q : Int) != (q : Int)) = false := by simp
          have hend := fun X (hb : Below wr.heap.size wr X) => (⟨hSy.below hb, hXy.below hb, hKy.below hb, hKRy.below hb, bl_trans hbWy hb⟩ : SnAt X p mb n' per L' ∧ RefAt X xb (xb + 1) per LR' ∧ Kept2 (xb + 1) X L' M' ∧ Kept2 (xb + 1) X LR' M' ∧ Below W.heap.size W X)
          replace hnum' := Lib.hid hnum'
          replace hsame := Lib.hid hsame
          replace hx1 := Lib.hid hx1
          replace hrowx := Lib.hid hrowx
          replace hcy := Lib.hid hcy
          replace hend := Lib.hid hend
          replace hq := Lib.hid hq
          clear hSy hXy hKy hKRy hbWy hS5 hX5 hK5 hKR5 hbWc v1 v2 v5 hll hBx hRx hO hR hrow hkeys hrowm hkf hnum
          obtain ⟨wy, rfl⟩ : ∃ wy : World, wy = wr := ⟨_, rfl⟩
          go_upto_region 28 with (go_at_call 13; (with_reducible refine hnum'.out.mono ?_); rintro e w7 ⟨am, cm, rfl, hN7, hb7⟩; replace hN7 := Lib.hid hN7)
          clear a8 hl10 hnum'
          obtain ⟨t1', t2', tl'⟩ := hcy.out w7 hb7
          obtain ⟨x7, xl7⟩ := hx1.out w7 hb7
          go_wp2_with (go_at_call 14; first
            | ((with_reducible refine (hsame.out nn w7 hb7).mono ?_); rintro e w8 ⟨rfl, hb8⟩; have hb78 := bl_trans hb7 hb8; obtain ⟨t18, t28, tl8⟩ := hcy.out w8 hb78; obtain ⟨x8, xl8⟩ := hx1.out w8 hb78)
            | ((with_reducible refine (hsame.out mm w8 hb78).mono ?_); rintro e w9 ⟨rfl, hb9⟩; have hb79 := bl_trans hb78 hb9))
          have hb99 : Below w7.heap.size w7 w9 := bl_trans hb8 hb9
          clear t1 t2 t1' t2' tl' tl x7 xl7 t18 t28 tl8 x8 xl8 hb78 hb8 hb9
          go_loopg [15] q (fun gh u wz => ∃ k : Nat, gh = q - k ∧ u = .int .i64 (k : Int) ∧ k ≤ q ∧ Hid (Below w7.heap.size w7 wz))
          case atStart => exact ⟨0, rfl, rfl, Nat.zero_le _, Lib.hid hb99⟩
          case round =>
            obtain ⟨k, rfl, rfl, hk, hbz⟩ := hrel
            have hbyz := bl_trans hb7 hbz.out
            obtain ⟨xz, xlz⟩ := hx1.out wr hbyz
            by_cases hkt : k < q
            · obtain ⟨gx, rfl, m1, m2⟩ := hrowx.out wr hbyz k hkt
              obtain ⟨gm, rfl, _, m3, m4⟩ := hN7.out k hkt
              have m5 : wr.cell? ⟨gm, k, none⟩ = some (.int .i64 (kf k)) := (hbz.out.cell (p := ⟨gm, k, none⟩) m3).trans m4
              have m6 : gm < wr.heap.size := Nat.lt_of_lt_of_le m3 hbz.out.size
              have hcs := Lib.hid (hsame.out (kf k) wr.drew (bl_drew hbyz))
              have hkt' : (k : Int) < (q : Int) := by omega
              have hk0 : (0 : Int) ≤ (k : Int) := by omega
              have hk00 : 0 < q := by omega
              obtain ⟨y, hy⟩ : ∃ y, kf k = y := ⟨_, rfl⟩
              rw [hy] at m2 m5 hcs
              clear m4
              replace hy := Lib.hid hy
              have hyy : (y != y) = false := by simp
              have hkeep : ∀ X, Below wr.heap.size wr X → X.cell? ⟨xb, 1, none⟩ = some (.slice (some ⟨gx, 0, none⟩) q cx) ∧ X.cell? ⟨gx, k * 28, none⟩ = some (.int .i64 y) ∧ X.cell? ⟨gm, k, none⟩ = some (.int .i64 y) ∧ xb < X.heap.size ∧ gx < X.heap.size ∧ gm < X.heap.size := fun X hb => ⟨(hb.cell (p := ⟨xb, 1, none⟩) xlz).trans xz, (hb.cell (p := ⟨gx, k * 28, none⟩) m1).trans m2, (hb.cell (p := ⟨gm, k, none⟩) m6).trans m5, Nat.lt_of_lt_of_le xlz hb.size, Nat.lt_of_lt_of_le m1 hb.size, Nat.lt_of_lt_of_le m6 hb.size⟩
              replace hkeep := Lib.hid hkeep
              have sI := hkeep.out wr.drew (bl_drew (Below.refl _ _))
              go_upto_region 33 with fail
              go_region_held3 (fun X => X.cell? ⟨xb, 1, none⟩ = some (.slice (some ⟨gx, 0, none⟩) q cx) ∧ X.cell? ⟨gx, k * 28, none⟩ = some (.int .i64 y) ∧ X.cell? ⟨gm, k, none⟩ = some (.int .i64 y) ∧ xb < X.heap.size ∧ gx < X.heap.size ∧ gm < X.heap.size) (first | with_reducible exact sI | with_reducible exact hI5)
                ((go_at_call 14; (with_reducible refine hcs.out.mono ?_); rintro e w10 ⟨rfl, hb10⟩; have hb10' := bl_trans (bl_drew (Below.refl _ wr)) hb10; have hI5 := hkeep.out w10 hb10'))
              go_wp2_with fail
              go_roundg (q - (k + 1))
              case measure => omega
              case rel => exact ⟨k + 1, rfl, by go_num, by omega, Lib.hid (bl_trans hbz.out hb10')⟩
            · obtain rfl : k = q := by omega
              have hE := hend.out wr hbyz
              have hML : M'.length ≤ i + 1 := by omega
              have hzz : xb < wr.heap.size := xlz
              replace hE := Lib.hid hE
              clear hcy hend hsame hrowx hN7
              go_wp2_with fail
              go_roundg (l1 - (i + 1))
              case measure => omega
              case rel => exact ⟨i + 1, n', L', LR', M', rfl, by go_num, by omega, by omega, hML, hzz, Lib.hid hE.out.1, Lib.hid hE.out.2.1, Lib.hid hE.out.2.2.1, Lib.hid hE.out.2.2.2.1, Lib.hid hE.out.2.2.2.2⟩
end Go.Proofs.Ytfidmpkblmebeaa
