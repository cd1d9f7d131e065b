/-
  The walk of the law RingAll, of chapter 24: under way.
  Conditions: as each theorem states them.
-/
import Derived.Test.YtfbimghnimepjaaAll0
import Derived.Test.YtfbimghnimepjaaReads
import Derived.Deep.RegionHeld3
import Derived.ControlIn
import Derived.Deep.LoopGhost
import Derived.Deep.Light
import Derived.Deep.CutBlock
import Derived.Deep.DeepCutAuto
namespace Go.Proofs.Ytfbimghnimepjaa
open Go.RowKit Go.Shelf
set_option linter.unusedVariables false
set_option linter.unusedSimpArgs false
attribute [local go_sem] Oper.semAt_some
theorem wrap64_id {n : Int} (h : 0 ≤ n ∧ n ≤ 9223372036854775807) : wrap64 n = n := by
  unfold wrap64
  omega
theorem row_ne_nil (la lo : Nat) (w : World) : (binOp .eql 76 (.func (.func 65) #[] #[.pointer (some ⟨la, 0, none⟩), .pointer (some ⟨lo, 0, none⟩)]) .nilFunc).run Try.prog w = .ok (.bool false) w := by kernel_rfl
theorem int_ne_nil (la lo : Nat) (w : World) : (binOp .eql 79 (.func (.func 67) #[] #[.pointer (some ⟨la, 0, none⟩), .pointer (some ⟨lo, 0, none⟩)]) .nilFunc).run Try.prog w = .ok (.bool false) w := by kernel_rfl
theorem keep_chain {w w3 wr w4 w7 A : World} {p g : Nat} (hB3 : Below w.heap.size w w3) (hok : Only (fun k => k = p ∨ k = g) w3 wr) (hk4 : KeepsUp 0 wr w4) (hB47 : Below w4.heap.size w4 w7)
    (hon : Only (fun k => k = wr.heap.size ∨ k = p ∨ k = g ∨ w7.heap.size ≤ k) w7 A) (hp : w.heap.size ≤ p) (hg : w.heap.size ≤ g) : ∀ q, q < w.heap.size → ∀ o v, w.cell? ⟨q, o, none⟩ = some v → A.cell? ⟨q, o, none⟩ = some v := by
  intro q hq o v hv
  have h3 := (hB3.cell (p := ⟨q, o, none⟩) hq).trans hv
  have hq3 : q < w3.heap.size := Nat.lt_of_lt_of_le hq hB3.size
  have hqr : q < wr.heap.size := Nat.lt_of_lt_of_le hq3 hok.size
  have h4 := (only_cell hok (o := o) hq3 (by omega)).trans h3
  have h5 := hk4.cell (Nat.zero_le _) h4
  have hq4 := World.block_lt_of_cell? w4 _ h5
  have h7 := (hB47.cell (p := ⟨q, o, none⟩) hq4).trans h5
  have hq7 := World.block_lt_of_cell? w7 _ h7
  have hq7' : q < w7.heap.size := hq7
  have hr7 : wr.heap.size ≤ w7.heap.size := Nat.le_trans hk4.size hB47.size
  exact (only_cell hon hq7' (by omega)).trans h7
theorem same_cells {w A : World} {i n : Nat} {fa : Nat → Option Addr} {fl : Nat → Nat} (hir : i < n) (hb : ∀ i, i < n → fl i ≤ 9223372036854775807 ∧ (0 < fl i → ∃ b o, fa i = some ⟨b, o, none⟩ ∧ b < w.heap.size ∧ ∃ f : Nat → Int, ∀ j, j < fl i → w.cell? ⟨b, o + j, none⟩ = some (.int .u8 (f j))))
    (keep : ∀ q, q < w.heap.size → ∀ o v, w.cell? ⟨q, o, none⟩ = some v → A.cell? ⟨q, o, none⟩ = some v) : ∃ f : Nat → Int, (0 < fl i → ∃ b o, fa i = some ⟨b, o, none⟩ ∧ ∀ j, j < fl i → A.cell? ⟨b, o + j, none⟩ = some (.int .u8 (f j))) := by
  by_cases h0 : 0 < fl i
  · obtain ⟨b, o, e, hb, f, hf⟩ := (hb i hir).2 h0
    exact ⟨f, fun _ => ⟨b, o, e, fun j hj => keep b hb _ _ (hf j hj)⟩⟩
  · exact ⟨fun _ => 0, fun h => absurd h h0⟩
theorem all_round {wr w7 A w9 : World} {p g m8 : Nat} {v v' : Value} (hbi : Boxed A wr.heap.size 3 v) (hon : Only (fun k => k = wr.heap.size ∨ k = p ∨ k = g ∨ w7.heap.size ≤ k) w7 A) (q4 : wr.heap.size < w7.heap.size) (q5 : p < wr.heap.size ∧ g < wr.heap.size)
    (ho : Only (fun k => k = p ∨ k = g) ((A.drewN m8).setCell ⟨wr.heap.size, 0, none⟩ v') w9) :
    KeepsUp w7.heap.size A w9 ∧ Only (fun k => k = wr.heap.size ∨ k = p ∨ k = g ∨ w7.heap.size ≤ k) A w9 ∧ Boxed w9 wr.heap.size 3 v' ∧ Only (fun k => k = wr.heap.size ∨ k = p ∨ k = g ∨ w7.heap.size ≤ k) w7 w9 ∧ w7.heap.size ≤ w9.heap.size := by
  have ho9 : Only (fun k => k = p ∨ k = g) ((A.setCell ⟨wr.heap.size, 0, none⟩ v').drewN m8) w9 := ho
  have h1 : Only (fun k => k = wr.heap.size ∨ k = p ∨ k = g ∨ w7.heap.size ≤ k) A w9 := ((Only.setCell (Only.refl _ A) (p := ⟨wr.heap.size, 0, none⟩) (.inl rfl) v').drewN m8).trans (ho9.mono (fun k h => by omega))
  have h2 : Boxed ((A.setCell ⟨wr.heap.size, 0, none⟩ v').drewN m8) wr.heap.size 3 v' := hbi.set v'
  refine ⟨?_, h1, (ho9.block _ h2.lt (by omega)).trans h2, hon.trans h1, Nat.le_trans hon.size h1.size⟩
  refine KeepsUp.trans (Y := (A.setCell ⟨wr.heap.size, 0, none⟩ v').drewN m8) ?_ (KeepsUp.only ho9 (fun k hk => by omega))
  have h3 := KeepsUp.setCell (B := w7.heap.size) A (p := ⟨wr.heap.size, 0, none⟩) q4 v'
  exact ⟨h3.size, h3.same⟩
set_option maxHeartbeats 8000000 in
set_option maxRecDepth 100000 in
theorem allWalk (a : Int) (ha : 0 ≤ a ∧ a ≤ 255) (la : Option Addr) (n lc : Nat) (hn : n ≤ 60) (fa : Nat → Option Addr) (fl fc : Nat → Nat) (w : World)
    (hl : 0 < n → ∃ b o, la = some ⟨b, o, none⟩ ∧ b < w.heap.size ∧ ∀ i, i < n → w.cell? ⟨b, o + i, none⟩ = some (.slice (fa i) (fl i) (fc i)))
    (hb : ∀ i, i < n → fl i ≤ 9223372036854775807 ∧ (0 < fl i → ∃ b o, fa i = some ⟨b, o, none⟩ ∧ b < w.heap.size ∧ ∃ f : Nat → Int, ∀ j, j < fl i → w.cell? ⟨b, o + j, none⟩ = some (.int .u8 (f j)))) :
    Calls Try.prog 10 #[.int .u8 a, .slice la n lc] w fun e w' => e = .returned (.bool true) ∧ Below w.heap.size w w' := by
  have hb1 : Below w.heap.size w ((w.alloc (.cells #[.slice la n lc] 69)).alloc (.cells #[.bool false] 4)) := bl_alloc (bl_alloc (Below.refl _ _) _) _
  have bX := (Boxed.new w 69 (.slice la n lc)).alloc (.cells #[.bool false] 4)
  have bR := Boxed.new (w.alloc (.cells #[.slice la n lc] 69)) 4 (.bool false)
  rw [World.size_alloc] at bR
  obtain ⟨W1, hW1⟩ : ∃ W1, (w.alloc (.cells #[.slice la n lc] 69)).alloc (.cells #[.bool false] 4) = W1 := ⟨_, rfl⟩
  rw [hW1] at hb1 bX bR
  replace hl := Lib.hid hl
  replace hb := Lib.hid hb
  have hnI : (n : Int) ≤ 60 := by omega
  have x0 := bX.cell
  refine (callsIn_wide (n := 5)).1 ?_
  refine callsIn_of_wp_marks Try.func10 rfl trivial ?_ rfl
  simp only [Try.ntmps10, List.size_toArray, List.length_cons, List.length_nil, Nat.reduceAdd, Nat.reduceSub, Array.replicate_succ, Array.replicate_zero, List.push_toArray, List.append_toArray, List.nil_append, List.cons_append]
  refine wpIn_wide.2 ?_
  go_wp2_with fail
  have hq : 1 ≤ 1 + a % 60 ∧ 1 + a % 60 ≤ 60 := by omega
  generalize 1 + a % 60 = q at *
  obtain ⟨cap, rfl⟩ := Int.eq_ofNat_of_zero_le (a := q) (by omega)
  have hc : 1 ≤ cap ∧ cap ≤ 60 := by omega
  refine (new_row cap W1 (by omega) (by omega)).mono ?_
  rintro e w2 ⟨p, g, rfl, hp, hg, hR, hb2⟩
  have hbx : w.heap.size < W1.heap.size := bX.lt
  have hbr : w.heap.size + 1 < W1.heap.size := bR.lt
  have bX2 : Boxed w2 w.heap.size 69 (.slice la n lc) := (hb2.block _ hbx).trans bX
  have bR2 : Boxed w2 (w.heap.size + 1) 4 (.bool false) := (hb2.block _ hbr).trans bR
  have hpg : p < w2.heap.size ∧ g < w2.heap.size := ⟨hR.blk.lt, hR.row.lt⟩
  have bX3 := bX2.alloc (.cells #[.pointer (some ⟨p, 0, none⟩)] 70)
  have bR3 := bR2.alloc (.cells #[.pointer (some ⟨p, 0, none⟩)] 70)
  have bP3 := Boxed.new w2 70 (.pointer (some ⟨p, 0, none⟩))
  have hR3 := hR.below (bl_alloc (Below.refl w2.heap.size w2) (.cells #[.pointer (some ⟨p, 0, none⟩)] 70))
  have hB3 : Below w.heap.size w (w2.alloc (.cells #[.pointer (some ⟨p, 0, none⟩)] 70)) := bl_alloc (bl_trans hb1 hb2) _
  have hsz2 := hb2.size
  obtain ⟨w3, hw3⟩ : ∃ w3, w2.alloc (.cells #[.pointer (some ⟨p, 0, none⟩)] 70) = w3 := ⟨_, rfl⟩
  rw [hw3] at bX3 bR3 bP3 hR3 hB3
  generalize hbr2 : w2.heap.size = br at *
  have x3 := bX3.cell
  have p3 := bP3.cell
  have hbrl := bP3.lt
  have hpw : W1.heap.size ≤ p ∧ W1.heap.size ≤ g := ⟨hp, hg⟩
  replace hW1 := Lib.hid hW1
  clear hb2 hR x0
  go_wp2_with fail
  go_loopw [8] (fun i wr => ∃ (k : Nat) (room : List Value), i = .int .i64 (k : Int) ∧ k ≤ n ∧ RingAt 109 73 wr p g room (k - cap) k ∧ room.length = cap ∧ (∀ j, k - cap ≤ j → j < k → room[j % cap]? = some (.slice (fa j) (fl j) (fc j))) ∧ Only (fun k => k = p ∨ k = g) w3 wr) (fun i _ => n - (intOf i).toNat)
  case atStart => exact ⟨0, _, rfl, by omega, by simpa using hR3, by simp, fun j _ h => by omega, Only.refl _ _⟩
  case round =>
    obtain ⟨k, room, rfl, hk, hRk, hlen, hroom, hok⟩ := hrel
    have n1 : ¬ (w.heap.size = p ∨ w.heap.size = g) := by omega
    have n2 : ¬ (br = p ∨ br = g) := by omega
    have xk := (only_cell hok (o := 0) bX3.lt n1).trans x3
    have pk := (only_cell hok (o := 0) hbrl n2).trans p3
    by_cases hlt : k < n
    · obtain ⟨b, o, rfl, hbb, hcell⟩ := hl.out (by omega)
      have n3 : ¬ (b = p ∨ b = g) := by omega
      have hb3 : b < w3.heap.size := Nat.lt_of_lt_of_le hbb hB3.size
      have ck := ((only_cell hok hb3 n3).trans (hB3.cell (p := ⟨b, o + k, none⟩) hbb)).trans (hcell k hlt)
      clear hcell
      have s1 : wr.drew.cell? ⟨w.heap.size, 0, none⟩ = some (.slice (some ⟨b, o, none⟩) n lc) ∧ wr.drew.cell? ⟨br, 0, none⟩ = some (.pointer (some ⟨p, 0, none⟩)) ∧ wr.drew.cell? ⟨b, o + k, none⟩ = some (.slice (fa k) (fl k) (fc k)) := ⟨xk, pk, ck⟩
      have hpush := Lib.hid (push_row (fa k) (fl k) (fc k) wr.drew p g room (k - cap) k (hRk.of rfl rfl) (by omega))
      have hl1 := Nat.lt_of_lt_of_le bX3.lt hok.size
      have hl2 := Nat.lt_of_lt_of_le hbrl hok.size
      have hl3 := Nat.lt_of_lt_of_le hb3 hok.size
      replace hlen := Lib.hid hlen
      replace hroom := Lib.hid hroom
      replace n1 := Lib.hid n1
      replace n2 := Lib.hid n2
      replace n3 := Lib.hid n3
      go_wp2_with fail
      go_region_held3 (fun w' => w'.cell? ⟨w.heap.size, 0, none⟩ = some (.slice (some ⟨b, o, none⟩) n lc) ∧ w'.cell? ⟨br, 0, none⟩ = some (.pointer (some ⟨p, 0, none⟩)) ∧ w'.cell? ⟨b, o + k, none⟩ = some (.slice (fa k) (fl k) (fc k))) (first | exact s1 | exact hs)
        (first
        | (go_at_call 34; refine hpush.out.mono ?_; rintro e w5 ⟨rfl, hR5, ho5⟩; have hs : w5.cell? ⟨w.heap.size, 0, none⟩ = some (.slice (some ⟨b, o, none⟩) n lc) ∧ w5.cell? ⟨br, 0, none⟩ = some (.pointer (some ⟨p, 0, none⟩)) ∧ w5.cell? ⟨b, o + k, none⟩ = some (.slice (fa k) (fl k) (fc k)) := ⟨(only_cell ho5 hl1 n1.out).trans s1.1, (only_cell ho5 hl2 n2.out).trans s1.2.1, (only_cell ho5 hl3 n3.out).trans s1.2.2⟩))
      all_goals go_wp2_with fail
      all_goals go_roundw
      case measure => simp [intOf]; omega
      case rel =>
        have e1 : max (k - cap) (k + 1 - room.length) = k + 1 - cap := by rw [hlen.out]; omega
        rw [e1] at hR5
        refine ⟨k + 1, _, by go_num, by omega, hR5, by simp [hlen.out], fun j h1 h2 => ?_, hok.drew.trans ho5⟩
        rw [hlen.out]
        by_cases hj : j = k
        · subst hj
          rw [List.getElem?_set_self (by rw [hlen.out]; exact Nat.mod_lt _ (by omega))]
        · rw [List.getElem?_set_ne (mod_ne (a := j) (b := k) (by omega) (by omega)).symm]
          exact hroom.out j (by omega) (by omega)
    · obtain rfl : n = k := by omega
      -- the number of the oldest: low
      have hcase : ((n : Int) - cap ≤ 0 ∧ ((n - cap : Nat) : Int) = 0) ∨ (0 < (n : Int) - cap ∧ ((n - cap : Nat) : Int) = (n : Int) - cap) := by omega
      have hl1 : w.heap.size < wr.heap.size := Nat.lt_of_lt_of_le bX3.lt hok.size
      have hl2 : br < wr.heap.size := Nat.lt_of_lt_of_le hbrl hok.size
      generalize hlow : n - cap = low at *
      have hln : low ≤ n := by omega
      have bI := Boxed.new wr 3 (.int .i64 (low : Int))
      have hRI := hRk.below (bl_alloc (Below.refl wr.heap.size wr) (.cells #[.int .i64 (low : Int)] 3))
      obtain ⟨w4, hw4⟩ : ∃ w4, wr.alloc (.cells #[.int .i64 (low : Int)] 3) = w4 := ⟨_, rfl⟩
      rw [hw4] at bI hRI
      have hk4 : KeepsUp 0 wr w4 := by rw [← hw4]; exact KeepsUp.alloc 0 wr _
      have xk4 := (hk4.cell (Nat.zero_le _) xk)
      have pk4 := (hk4.cell (Nat.zero_le _) pk)
      have hall := all_row w4 p g room low n hRI (by omega) (fun j => .slice (fa (wrap64 ((low : Int) + (j : Int))).toNat) (fl (wrap64 ((low : Int) + (j : Int))).toNat) (fc (wrap64 ((low : Int) + (j : Int))).toNat)) (fun j => ⟨_, _, _, rfl⟩) (fun j hj => by
        have e : (wrap64 ((low : Int) + (j : Int))).toNat = low + j := by rw [wrap64_id (by omega)]; omega
        rw [hlen, e]
        exact hroom (low + j) (by omega) hj)
      replace hall := Lib.hid hall
      have f1 := row_ne_nil
      have f2 := int_ne_nil
      replace hw4 := Lib.hid hw4
      go_upto_region 9 with fail
      go_cut [9] from 50 to 54 (fun s9 wx => s9 = .pointer (some ⟨wr.heap.size, 0, none⟩) ∧ w4 = wx)
      case first =>
        rcases hcase with ⟨hc1, hc2⟩ | ⟨hc1, hc2⟩
        · rw [hc2] at hw4
          go_wp2_with fail
          go_meet
          exact ⟨rfl, hw4.out.symm⟩
        · rw [hc2] at hw4
          go_wp2_with fail
          go_meet
          exact ⟨rfl, hw4.out.symm⟩
      case rest =>
      obtain ⟨rfl, rfl⟩ := hcut
      clear hcase
      go_wp2_with fail
      refine hall.out.mono ?_
      rintro e w5 ⟨la2, lo2, a5, cap5, rfl, ha5, hlo5, hla5, hlo6, hlol, hvs, hb5⟩
      subst hla5 hlo6
      go_wp2_with (go_at_call 36; refine (all_nil _).mono ?_; rintro e w6 ⟨rfl, rfl⟩)
      obtain ⟨w7, hw7⟩ : ∃ w7, (w5.alloc (.cells #[.slice none 0 0] 61)).alloc (.cells #[.int .i64 0] 3) = w7 := ⟨_, rfl⟩
      have hb57 : Below w5.heap.size w5 w7 := by rw [← hw7]; exact bl_alloc (bl_alloc (Below.refl _ _) _) _
      have hsz7 : w7.heap.size = w5.heap.size + 2 := by rw [← hw7]; simp
      have hsz4 : w4.heap.size = wr.heap.size + 1 := by rw [← hw4.out]; simp
      have hsz5 := hb5.size
      have hpg3 : p < wr.heap.size ∧ g < wr.heap.size := ⟨hRk.blk.lt, hRk.row.lt⟩
      rw [hw7]
      have c1 := (hb57.cell (p := ⟨w4.heap.size, 0, none⟩) (by show w4.heap.size < _; omega)).trans ha5
      have c2 := (hb57.cell (p := ⟨w4.heap.size + 1, 0, none⟩) hlol).trans hlo5
      have hB47 : Below w4.heap.size w4 w7 := bl_trans hb5 hb57
      have bI7 : Boxed w7 wr.heap.size 3 (.int .i64 (low : Int)) := (hB47.block _ bI.lt).trans bI
      have hR7 := hRI.below hB47
      have hvs7 : Vals (fun k => k = wr.heap.size ∨ k = p ∨ k = g ∨ w7.heap.size ≤ k) w7 (.slice a5 (n - low) cap5) (n - low) (fun j => .slice (fa (wrap64 ((low : Int) + (j : Int))).toNat) (fl (wrap64 ((low : Int) + (j : Int))).toNat) (fc (wrap64 ((low : Int) + (j : Int))).toNat)) := by
        rcases hvs with h | ⟨b2, o2, c2', e2, hn2, hb2', hc2'⟩
        · exact .inl h
        · exact .inr ⟨b2, o2, c2', e2, by omega, by omega, fun j hj => (hb57.cell (p := ⟨b2, o2 + j, none⟩) hb2').trans (hc2' j hj)⟩
      refine (wpIn_wide (n := 5)).1 ?_
      refine range_through rfl (show 1 ≤ 5 by omega) (gf := 65) (lb := #[.pointer (some ⟨w4.heap.size, 0, none⟩), .pointer (some ⟨w4.heap.size + 1, 0, none⟩)]) rfl trivial (enters_of Try.func65 (by kernel_rfl) rfl)
        (ringSeq_row w4.heap.size (w4.heap.size + 1) (fun k => k = wr.heap.size ∨ k = p ∨ k = g ∨ w7.heap.size ≤ k) (low : Int) (by omega) a5 (n - low) cap5 (fun j => .slice (fa (wrap64 ((low : Int) + (j : Int))).toNat) (fl (wrap64 ((low : Int) + (j : Int))).toNat) (fc (wrap64 ((low : Int) + (j : Int))).toNat)) (by omega) w7 ⟨by omega, by omega⟩ ⟨by omega, by omega⟩ (fun k hk => .inr (.inr (.inr hk))) c1 c2 hvs7) (Below.refl _ _) (fun k hk => .inr (.inr (.inr hk))) (fun _ => rfl)
        (fun pre A => Boxed A wr.heap.size 3 (.int .i64 ((low : Int) + (pre.length : Int))) ∧ (∃ (room2 : List Value) (low2 high2 : Nat), A.heap.size ≥ w7.heap.size ∧ RingAt 109 73 A p g room2 low2 high2 ∧ high2 ≤ n + pre.length) ∧ Only (fun k => k = wr.heap.size ∨ k = p ∨ k = g ∨ w7.heap.size ≤ k) w7 A)
        (fun c pre A => c = .ret ∧ ∃ (ini : List Nat) (j : Nat), pre = ini ++ [j] ∧ wrap64 ((low : Int) + (j : Int)) ≠ (low : Int) + (ini.length : Int))
        ?hI (fun c s A B row hs hg hr => hs) ?h0 ?a1 ?assign ?body ?done ?stop
      case assign =>
        intro l x A K hK
        gi_wp2
        exact hK
      case hI =>
        refine OwnFrom.and (Own.from (fun s A B row hs hg hr => hs.kept hg (fun e' => by obtain ⟨o, ho, hc⟩ := hr _ e'.symm; rw [show A.heap[wr.heap.size]? = _ from hs] at ho; cases ho; cases hc)) _) (OwnFrom.and ?_ (ownFrom_only (fun k hk => .inr (.inr (.inr hk)))))
        rintro s A B row ⟨room2, low2, high2, h1, h2, h3⟩ hg hr
        exact ⟨room2, low2, high2, Nat.le_trans h1 hg.size, h2.of (hg.block p h2.blk.lt (fun e => by have := (hr _ e.symm).1; omega)) (hg.block g h2.row.lt (fun e => by have := (hr _ e.symm).1; omega)), h3⟩
      case h0 => exact ⟨by simpa using bI7, ⟨room, low, n, Nat.le_refl _, hR7, by simp⟩, Only.refl _ _⟩
      case body =>
        go_light
        rintro l2 pre j A ⟨hbi, ⟨room2, low2, high2, hge, hRA, hh2⟩, hon⟩ hlen
        have k0 := hbi.cell
        have k0f := hbi.frozen
        have nb1 : ¬ (w.heap.size = wr.heap.size ∨ w.heap.size = p ∨ w.heap.size = g ∨ w7.heap.size ≤ w.heap.size) := by omega
        have nb2 : ¬ (br = wr.heap.size ∨ br = p ∨ br = g ∨ w7.heap.size ≤ br) := by omega
        have nb3 : ¬ (w.heap.size + 1 = wr.heap.size ∨ w.heap.size + 1 = p ∨ w.heap.size + 1 = g ∨ w7.heap.size ≤ w.heap.size + 1) := by omega
        have hR1 : w.heap.size + 1 < wr.heap.size := Nat.lt_of_lt_of_le bR3.lt hok.size
        have xA := (only_cell hon (o := 0) (show w.heap.size < w7.heap.size by omega) nb1).trans ((hB47.cell (p := ⟨w.heap.size, 0, none⟩) (by show w.heap.size < _; omega)).trans xk4)
        have pA := (only_cell hon (o := 0) (show br < w7.heap.size by omega) nb2).trans ((hB47.cell (p := ⟨br, 0, none⟩) (by show br < _; omega)).trans pk4)
        have bRw : Boxed wr (w.heap.size + 1) 4 (.bool false) := (hok.block _ bR3.lt (by omega)).trans bR3
        have bR4 : Boxed w4 (w.heap.size + 1) 4 (.bool false) := (hk4.same _ (Nat.zero_le _) bRw.lt).trans bRw
        have bR7 : Boxed w7 (w.heap.size + 1) 4 (.bool false) := (hB47.block _ bR4.lt).trans bR4
        have bRA : Boxed A (w.heap.size + 1) 4 (.bool false) := (hon.block _ bR7.lt nb3).trans bR7
        have r0 := bRA.cell
        have r1 := bRA.frozen
        have hil : (low : Int) + (pre.length : Int) < n := by omega
        have hil2 : (pre.length : Int) ≤ 60 := by omega
        obtain ⟨kk, hkk⟩ : ∃ kk, wrap64 ((low : Int) + (j : Int)) = kk := ⟨_, rfl⟩
        rw [hkk]
        replace hkk := Lib.hid hkk
        by_cases e1 : kk = (low : Int) + (pre.length : Int)
        · have hir : low + pre.length < n := by omega
          obtain ⟨i, hi⟩ : ∃ i, low + pre.length = i := ⟨_, rfl⟩
          have hiI : (low : Int) + (pre.length : Int) = (i : Int) := by omega
          rw [hi] at hir
          rw [hiI] at k0 e1
          have keep := keep_chain hB3 hok hk4 hB47 hon (by omega) (by omega)
          obtain ⟨lb, lof, rfl, hlb, hcell⟩ := hl.out (by omega)
          have kl := keep lb hlb _ _ (hcell i hir)
          obtain ⟨f, hf⟩ := same_cells hir hb.out keep
          have hsm := same_refl (fa i) (fl i) (fc i) f (hb.out i hir).1 A hf
          have q1 : decide (n ≤ i) = false := by simp only [decide_eq_false_iff_not]; omega
          have q2 : i ≤ 60 := by omega
          have q3 : (i : Int) < n := by omega
          have q4 : wr.heap.size < w7.heap.size := by omega
          have q5 : p < wr.heap.size ∧ g < wr.heap.size := hpg3
          replace hsm := Lib.hid hsm
          replace keep := Lib.hid keep
          replace hi := Lib.hid hi
          replace hiI := Lib.hid hiI
          replace hRA := Lib.hid hRA
          replace hon := Lib.hid hon
          replace hbi := Lib.hid hbi
          subst e1
          clear hall hvs7 hcell hf hl hb hvs c1 c2 x3 p3
          simp only [Int.toNat_natCast]
          gi_wp2
          refine ⟨trivial, ?_⟩
          refine (CallsIn.inRound l2 (callsIn_wide.2 hsm.out)).mono ?_
          rintro e w8 ⟨rfl, m8, rfl⟩
          have hRW : ∀ W' : World, W'.heap = (A.setCell ⟨wr.heap.size, 0, none⟩ (.int .i64 ((i : Int) + 1))).heap → RingAt 109 73 W' p g room2 low2 high2 := fun W' h =>
            hRA.out.of (by rw [h]; exact Below.heap_setCell _ _ _ _ (show p ≠ wr.heap.size by omega)) (by rw [h]; exact Below.heap_setCell _ _ _ _ (show g ≠ wr.heap.size by omega))
          have hbig : high2 < 1099511627776 := by omega
          have hP := Lib.hid (fun (W' : World) h => push_row none 0 0 W' p g room2 low2 high2 (hRW W' h) hbig)
          have hlh : low2 ≤ high2 := hRA.out.lh
          have hC := Lib.hid (fun (W' : World) h => cut_row 0 W' p g room2 low2 high2 low2 (hRW W' h) hbig (by omega))
          replace hRW := Lib.hid hRW
          clear hbig
          by_cases hpar : i % 2 = 0
          · have p1 : ((i : Int) % 2 == 0) = true := by simp; omega
            clear hpar
            gi_wp2
            refine ⟨trivial, ?_⟩
            refine (CallsIn.inRound l2 (callsIn_wide.2 (hP.out ((A.drewN m8).setCell ⟨wr.heap.size, 0, none⟩ (.int .i64 ((i : Int) + 1))) rfl))).mono ?_
            rintro e w9 ⟨rfl, hR9, ho9⟩
            obtain ⟨g1, g2, g3, g4, g5⟩ := all_round hbi.out hon.out q4 q5 ho9
            replace g1 := Lib.hid g1
            replace g2 := Lib.hid g2
            replace g3 := Lib.hid g3
            replace g4 := Lib.hid g4
            replace hR9 := Lib.hid hR9
            gi_wp2
            go_light
            exact ⟨g1.out, g2.out, by have := g3.out; rw [← hiI.out] at this; simpa [Int.add_assoc] using this, ⟨_, _, _, g5, hR9.out, by simp; omega⟩, g4.out⟩
          · have p1 : ((i : Int) % 2 == 0) = false := by simp; omega
            clear hpar
            gi_wp2
            refine ⟨trivial, ?_⟩
            refine (CallsIn.inRound l2 (callsIn_wide.2 (hC.out ((A.drewN m8).setCell ⟨wr.heap.size, 0, none⟩ (.int .i64 ((i : Int) + 1))) rfl))).mono ?_
            rintro e w9 ⟨room9, rfl, _, _, hR9, ho9⟩
            obtain ⟨g1, g2, g3, g4, g5⟩ := all_round hbi.out hon.out q4 q5 ho9
            replace g1 := Lib.hid g1
            replace g2 := Lib.hid g2
            replace g3 := Lib.hid g3
            replace g4 := Lib.hid g4
            replace hR9 := Lib.hid hR9
            gi_wp2
            go_light
            exact ⟨g1.out, g2.out, by have := g3.out; rw [← hiI.out] at this; simpa [Int.add_assoc] using this, ⟨_, _, _, g5, hR9.out, by simp; omega⟩, g4.out⟩
        · have hset := KeepsUp.setCell (B := w7.heap.size) A (p := ⟨w.heap.size + 1, 0, none⟩) (by show w.heap.size + 1 < _; omega) (.bool false)
          replace hset := Lib.hid hset
          have e3 : (kk != (low : Int) + (pre.length : Int)) = true := by simpa using e1
          have e4 : (kk == (low : Int) + (pre.length : Int)) = false := by simpa using e1
          clear hall hvs hvs7
          gi_wp2
          refine ⟨trivial, ?_⟩
          gi_wp2
          exact ⟨hset.out, rfl, pre, j, rfl, by rw [hkk.out]; exact e1⟩
      case stop =>
        rintro D c2 pre A hD ⟨k2, hk2, rfl⟩ ⟨rfl, ini, j, e, hm⟩ hK
        exfalso
        cases k2 with
        | zero => simp at e
        | succ k2 =>
          rw [List.range_succ] at e
          obtain ⟨rfl, e2⟩ := List.append_inj' e rfl
          obtain rfl : k2 = j := by simpa using e2
          exact hm (by rw [List.length_range]; exact wrap64_id (by omega))
      case done =>
        rintro D ys A hD rfl ⟨hbi, ⟨room2, low2, high2, hge, hRA, hh2⟩, hon⟩ hK
        have hnn : (low : Int) + ((List.range (n - low)).length : Int) = (n : Int) := by rw [List.length_range]; omega
        rw [hnn] at hbi
        clear hnn
        have hB0r : Below w.heap.size w wr := bl_only hB3 hok (fun i h => by omega)
        have hBr4 : Below wr.heap.size wr w4 := by rw [← hw4.out]; exact bl_alloc (Below.refl _ _) _
        have hB07 : Below w.heap.size w w7 := bl_trans (bl_trans hB0r hBr4) hB47
        have hB0A : Below w.heap.size w A := bl_only hB07 hon (fun i h => by have := hB07.size; omega)
        have hR1 : w.heap.size + 1 < wr.heap.size := Nat.lt_of_lt_of_le bR3.lt hok.size
        have bRw : Boxed wr (w.heap.size + 1) 4 (.bool false) := (hok.block _ bR3.lt (by omega)).trans bR3
        have bR4 : Boxed w4 (w.heap.size + 1) 4 (.bool false) := (hk4.same _ (Nat.zero_le _) bRw.lt).trans bRw
        have bR7 : Boxed w7 (w.heap.size + 1) 4 (.bool false) := (hB47.block _ bR4.lt).trans bR4
        have bRA : Boxed A (w.heap.size + 1) 4 (.bool false) := (hon.block _ bR7.lt (by omega)).trans bR7
        have bXr : Boxed wr w.heap.size 69 (.slice la n lc) := (hok.block _ bX3.lt (by omega)).trans bX3
        have bX4 : Boxed w4 w.heap.size 69 (.slice la n lc) := (hk4.same _ (Nat.zero_le _) bXr.lt).trans bXr
        have bX7 : Boxed w7 w.heap.size 69 (.slice la n lc) := (hB47.block _ bX4.lt).trans bX4
        have bXA : Boxed A w.heap.size 69 (.slice la n lc) := (hon.block _ bX7.lt (by omega)).trans bX7
        have d1 : w7.cell? ⟨w5.heap.size, 0, none⟩ = some (.slice none 0 0) := by
          rw [← hw7]; exact ((Boxed.new w5 61 (.slice none 0 0)).alloc _).cell
        have d2 : w7.cell? ⟨w5.heap.size + 1, 0, none⟩ = some (.int .i64 0) := by
          rw [← hw7]; have := (Boxed.new (w5.alloc (.cells #[.slice none 0 0] 61)) 3 (.int .i64 0)).cell; rwa [World.size_alloc] at this
        have e1 := (only_cell hon (o := 0) (show w5.heap.size < w7.heap.size by omega) (by omega)).trans d1
        have e2 := (only_cell hon (o := 0) (show w5.heap.size + 1 < w7.heap.size by omega) (by omega)).trans d2
        have l5 : w5.heap.size + 1 < A.heap.size := by omega
        clear hall hvs hvs7 c1 c2 d1 d2 hl hb x3 p3 xk pk xk4 pk4 bX3 bX2 bX bXr bX4 bX7 bR bR2 bR3 bRw bR4 bR7 hRk hRI hR7 hR3 hroom
        go_wp2_with fail
        refine (wpIn_wide (n := 5)).1 ?_
        refine range_through rfl (show 1 ≤ 5 by omega) (gf := 67) (lb := #[.pointer (some ⟨w5.heap.size, 0, none⟩), .pointer (some ⟨w5.heap.size + 1, 0, none⟩)]) rfl trivial (enters_of Try.func67 (by kernel_rfl) rfl)
          (ringSeq_int w5.heap.size (w5.heap.size + 1) (fun k => A.heap.size ≤ k) 0 (by omega) none 0 0 (fun _ => .int .i64 0) (by omega) A ⟨by omega, by omega⟩ ⟨by omega, by omega⟩ (fun k hk => hk) e1 e2 (.inl ⟨rfl, rfl⟩)) (Below.refl _ _) (fun k hk => hk) (fun _ => rfl)
          (fun _ W => Only (fun k => A.heap.size ≤ k) A W) (fun c pre W => False) (ownFrom_only (fun k hk => hk)) (fun c s A B row hs hg hr => hs) (Only.refl _ _) ?a1b ?assignb ?bodyb ?doneb ?stopb
        case assignb =>
          intro l x A K hK
          gi_wp2
          exact hK
        case bodyb =>
          intro l pre x W _ h
          exact absurd h (Nat.not_lt_zero _)
        case stopb =>
          intro D2 c pre W _ _ h
          exact h.elim
        case doneb =>
          rintro D2 ys W hD2 rfl hoW hK2
          have bRW : Boxed W (w.heap.size + 1) 4 (.bool false) := (hoW.block _ bRA.lt (by have := bRA.lt; omega)).trans bRA
          have bXW : Boxed W w.heap.size 69 (.slice la n lc) := (hoW.block _ bXA.lt (by have := bXA.lt; omega)).trans bXA
          have bNW : Boxed W wr.heap.size 3 (.int .i64 (n : Int)) := (hoW.block _ hbi.lt (by have := hbi.lt; omega)).trans hbi
          have hKl : D < A.heap.size := (Array.getElem?_eq_some_iff.1 hK).1
          have hKW : W.heap[D]? = some (.deferred (some [])) := (hoW.block D hKl (by omega)).trans hK
          have hB0W : Below w.heap.size w W := bl_only hB0A hoW (fun i h => by have := hB0A.size; omega)
          have x1 := bXW.cell
          have x2 := bNW.cell
          have x3 := bRW.lt
          replace hK := Lib.hid hK
          replace hK2 := Lib.hid hK2
          replace hKW := Lib.hid hKW
          have q0 : ((n : Int) == (n : Int)) = true := by simp
          go_wp2_with (first | (go_at_call 39; refine (at_nil _ _).mono ?_; rintro e w8 ⟨rfl, rfl⟩) | (go_at_call 28; refine (push_nil _ _).mono ?_; rintro e w8 ⟨rfl, rfl⟩) | (go_at_call 40; refine (low_nil _).mono ?_; rintro e w8 ⟨rfl, rfl⟩) | (go_at_call 41; refine (high_nil _).mono ?_; rintro e w8 ⟨rfl, rfl⟩) | (go_at_call 30; refine (cut_nil _ _).mono ?_; rintro e w8 ⟨rfl, rfl⟩) | (go_at_call 20; refine (awake24_any _).mono ?_; rintro e w9 ⟨rfl, hb9⟩; have bR9 : Boxed w9 (w.heap.size + 1) 4 (.bool false) := (hb9.block _ x3).trans bRW; have y1 := bR9.cell; have y2 := bR9.frozen))
          have hDl : D2 < W.heap.size := (Array.getElem?_eq_some_iff.1 hK2.out).1
          have hD1 : D < W.heap.size := (Array.getElem?_eq_some_iff.1 hKW.out).1
          obtain ⟨W5, hW5⟩ : ∃ W5, w9.setCell ⟨w.heap.size + 1, 0, none⟩ (.bool true) = W5 := ⟨_, rfl⟩
          have j2 : W5.heap[D2]? = some (.deferred (some [])) := by rw [← hW5, Below.heap_setCell _ _ _ _ (show D2 ≠ w.heap.size + 1 by omega), hb9.block _ hDl]; exact hK2.out
          have j1 : W5.heap[D]? = some (.deferred (some [])) := by rw [← hW5, Below.heap_setCell _ _ _ _ (show D ≠ w.heap.size + 1 by omega), hb9.block _ hD1]; exact hKW.out
          have hB05 : Below w.heap.size w W5 := by rw [← hW5]; exact (bl_trans hB0W hb9).setCell (p := ⟨w.heap.size + 1, 0, none⟩) (by simp) _
          have jR : Boxed W5 (w.heap.size + 1) 4 (.bool true) := by rw [← hW5]; exact bR9.set _
          rw [hW5]
          have hne : D ≠ D2 := by omega
          have i1 : (W5.putObj D2 (.deferred none)).heap[D]? = some (.deferred (some [])) := (World.putObj_heap_other hne).trans j1
          have hB06 : Below w.heap.size w (W5.putObj D2 (.deferred none)) := belowK_t hB05 (belowK_b (w := w) (Nat.le_refl _) W5 D2 _ _ (by omega) j2 rfl rfl)
          have hB07 : Below w.heap.size w ((W5.putObj D2 (.deferred none)).putObj D (.deferred none)) := belowK_t hB06 (belowK_b (w := w) (Nat.le_refl _) _ D _ _ (by omega) i1 rfl rfl)
          have jR7 : Boxed ((W5.putObj D2 (.deferred none)).putObj D (.deferred none)) (w.heap.size + 1) 4 (.bool true) := ((World.putObj_heap_other (by omega)).trans (World.putObj_heap_other (by omega))).trans jR
          refine ⟨by simp, .inl ⟨_, _, rfl, run_takeDeferred j2, ?_⟩⟩
          refine ⟨by simp, .inl ⟨_, _, rfl, run_takeDeferred i1, ?_⟩⟩
          generalize (W5.putObj D2 (.deferred none)).putObj D (.deferred none) = W7 at *
          have y7 := jR7.cell
          refine ⟨.bool true, by simp [results, Try.results10, go_sem, y7], ?_⟩
          exact ⟨rfl, hB07⟩
end Go.Proofs.Ytfbimghnimepjaa
