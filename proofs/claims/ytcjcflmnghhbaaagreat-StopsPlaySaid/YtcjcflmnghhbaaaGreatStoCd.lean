/-
  The reference's breakpoints: At, Turn, Same, Ints; Get; of chapter 28.
  Conditions: as each theorem states them.
-/
import Derived.Test.YtcjcflmnghhbaaaGreatStoTa
import Derived.Test.YtcjcflmnghhbaaaGreatStopJk
namespace Go.Proofs.YtcjcflmnghhbaaaGreat
open Go.RowKit
set_option linter.unusedVariables false
set_option linter.unusedSimpArgs false
set_option maxHeartbeats 4000000 in
set_option maxRecDepth 100000 in
theorem rat_any {W : World} {xb : Nat} {rv : Value} {l : List Stp} {last : Int} (h : RefL W xb rv l last) (hl : l.length ≤ 1000000) (id : Int) :
    Calls Tryz.prog 19 #[.pointer (some ⟨xb, 0, none⟩), .int .i64 id] W fun e w' => e = .returned (.int .i64 (findP id l)) ∧ W = w' := by
  obtain ⟨va, vc, rfl⟩ := own_slice h.row
  have x0 : W.cell? ⟨xb, 0, none⟩ = some (.slice va l.length vc) := h.blk.cell 0
  have xl := h.blk.lt
  have hel := Lib.hid (fun i (hi : i < l.length) => h.elem hi)
  have hnone := Lib.hid (fun (hn : ∀ j (hj : j < l.length), (l[j].id == id) = false) => findP_none hn)
  have hsome := Lib.hid (fun i (hi : i < l.length) he (hn : ∀ j (hj : j < l.length), j < i → (l[j].id == id) = false) => findP_some hi he (fun j hj => hn j (by omega) hj))
  obtain ⟨m, hm⟩ : ∃ m, l.length = m := ⟨_, rfl⟩
  rw [hm] at x0 hl
  replace hm := Lib.hid hm
  clear h
  go_enter Tryz.func19, Tryz.ntmps19
  go_wp2_with fail
  go_loopg [5] m (fun gh u wr => ∃ i : Nat, gh = m - i ∧ u = .int .i64 (i : Int) ∧ i ≤ m ∧ W = wr ∧ Hid (∀ j (hj : j < l.length), j < i → (l[j].id == id) = false))
  case atStart => exact ⟨0, rfl, rfl, Nat.zero_le _, rfl, Lib.hid (fun j hj h => absurd h (Nat.not_lt_zero j))⟩
  case round =>
    obtain ⟨i, rfl, rfl, him, rfl, hno⟩ := hrel
    by_cases hlt : i < m
    · have hi' : i < l.length := by rw [hm.out]; exact hlt
      obtain ⟨g, cap, he, hg, hc⟩ := hel.out i hi'
      obtain ⟨rfl, rfl⟩ : va = some ⟨g, 0, none⟩ ∧ vc = cap := by simpa using he
      have c0 := (hc i hi' 0 _ rfl).1
      rw [Nat.add_zero] at c0
      have hS := fun h => hsome.out i hi' h hno.out
      have hN : (l[i].id == id) = false → ∀ j (hj : j < l.length), j < i + 1 → (l[j].id == id) = false := fun h j hj hji => by
        rcases Nat.lt_or_eq_of_le (Nat.le_of_lt_succ hji) with h1 | h1
        · exact hno.out j hj h1
        · subst h1; exact h
      obtain ⟨k, hk⟩ : ∃ k, l[i].id = k := ⟨_, rfl⟩
      rw [hk] at c0 hS hN
      have hit : (i : Int) < (m : Int) := by omega
      have hi0 : (0 : Int) ≤ (i : Int) := by omega
      clear hc he
      replace hk := Lib.hid hk
      by_cases hq : k = id
      · have q0 : (k == id) = true := by simpa using hq
        have hr := Lib.hid (hS q0)
        clear hS hN
        go_wp2_with fail
        go_ret
        exact ⟨by rw [hr.out]; rfl, rfl⟩
      · have q0 : (k == id) = false := by simpa using hq
        have hn1 := Lib.hid (hN q0)
        clear hS hN
        go_wp2_with fail
        go_roundg (m - (i + 1))
        case measure => omega
        case rel => exact ⟨i + 1, rfl, by go_num, by omega, rfl, hn1⟩
    · obtain rfl : i = m := by omega
      have hr := Lib.hid (hnone.out (fun j hj => hno.out j hj (by have := hm.out; omega)))
      go_wp2_with fail
      go_ret
      exact ⟨by rw [hr.out]; rfl, rfl⟩
theorem brks_off : ∀ (l : List Stp) (k : Nat) (o : Bool), k < l.length → brksC (l.modify k fun x => { x with off := o }) = (brksC l).set (k * 5 + 4) (.bool o)
  | [], k, o, h => by simp at h
  | x :: l, 0, o, _ => by
    show Stp.brk { x with off := o } ++ brksC l = (Stp.brk x ++ brksC l).set (0 * 5 + 4) _
    rfl
  | x :: l, k + 1, o, h => by
    have ih := brks_off l k o (by simpa using h)
    show Stp.brk x ++ brksC (l.modify k fun x => { x with off := o }) = (Stp.brk x ++ brksC l).set ((k + 1) * 5 + 4) _
    rw [ih, List.set_append_right _ _ (by show 5 ≤ _; omega)]
    congr 2
    show _ = (k + 1) * 5 + 4 - 5
    omega
theorem RefL.off {W : World} {xb : Nat} {rv : Value} {l : List Stp} {last : Int} (h : RefL W xb rv l last) {g k : Nat} (hg : rv.ownBlock = some g) (hk : k < l.length) (o : Bool) : RefL (W.setCell ⟨g, k * 5 + 4, none⟩ (.bool o)) xb rv (l.modify k fun x => { x with off := o }) last := by
  refine ⟨h.blk.set_other (p := ⟨g, _, none⟩) (fun e => h.apart (by rw [hg]; exact congrArg some e)) _, ?_, h.apart⟩
  have := own_set h.row hg (j := k * 5 + 4) (by omega) (.bool o)
  rw [brks_off l k o hk, List.length_modify]
  exact this
set_option maxHeartbeats 4000000 in
set_option maxRecDepth 100000 in
theorem rturn_any {W : World} {xb : Nat} {rv : Value} {l : List Stp} {last : Int} (h : RefL W xb rv l last) (hl : l.length ≤ 1000000) (id : Int) (on : Bool) :
    Calls Tryz.prog 10 #[.pointer (some ⟨xb, 0, none⟩), .int .i64 id, .bool on] W fun e w' => e = .returned (.int .i64 (if findP id l < 0 then 6 else 0)) ∧ RefL w' xb rv (turnS id on l) last ∧ Only (RefK xb rv) W w' := by
  have hf := Lib.hid (rat_any h hl id)
  have x0 : W.cell? ⟨xb, 0, none⟩ = some rv := h.blk.cell 0
  have xl := h.blk.lt
  cases hk : l.findIdx? (fun x => x.id == id) with
  | none =>
    have e1 : findP id l = -1 := by unfold findP; rw [hk]
    have e2 : turnS id on l = l := by unfold turnS; rw [hk]
    rw [e1] at hf ⊢
    rw [e2]
    have hR0 := Lib.hid h
    clear hk e1 e2 h
    go_enter Tryz.func10, Tryz.ntmps10
    go_wp2_with (go_at_call 19; refine hf.out.mono ?_; rintro e w2 ⟨rfl, rfl⟩)
    go_ret
    exact ⟨rfl, hR0.out, Only.refl _ _⟩
  | some k =>
    obtain ⟨e1, hkl⟩ := findP_at hk
    have e2 : turnS id on l = l.modify k fun x => { x with off := !on } := by unfold turnS; rw [hk]
    rw [e1] at hf ⊢
    rw [e2, if_neg (by omega)]
    obtain ⟨g, cap, rfl, hg, hc⟩ := h.elem hkl
    have z0 : (0 : Int) ≤ (k : Int) := by omega
    have z1 : (k : Int) < (l.length : Int) := by omega
    have c4 := (hc k hkl 4 _ rfl).1
    have f4 := (hc k hkl 4 _ rfl).2
    have hend := Lib.hid (h.off rfl hkl (!on))
    clear hc hk e1 e2 h
    go_enter Tryz.func10, Tryz.ntmps10
    go_wp2_with (go_at_call 19; refine hf.out.mono ?_; rintro e w2 ⟨rfl, rfl⟩)
    go_ret
    exact ⟨rfl, hend.out, Only.setCell (S := RefK xb (.slice (some ⟨g, 0, none⟩) l.length cap)) (Only.refl _ _) (p := ⟨g, k * 5 + 4, none⟩) (.inr rfl) _⟩
/-- a row of what is told of breakpoints -/
def BrkRow (w : World) (v : Value) (l : List Stp) : Prop := ∃ a c, v = .slice a l.length c ∧ ∀ i (hi : i < l.length), ∃ g, a = some ⟨g, 0, none⟩ ∧ g < w.heap.size ∧ ∀ j u, (l[i]).brk[j]? = some u → w.cell? ⟨g, i * 5 + j, none⟩ = some u
theorem BrkRow.of {w : World} {base e : Nat} {v : Value} {l : List Stp} (h : w.ownsRow base e 5 v l.length (brksC l)) : BrkRow w v l := by
  obtain ⟨a, c, rfl⟩ := own_slice h
  refine ⟨a, c, rfl, fun i hi => ?_⟩
  rcases h.2 with ⟨h1, h2⟩ | ⟨g, cap, cur, h1, h2, h3, _⟩
  · omega
  · obtain ⟨rfl, rfl⟩ : a = some ⟨g, 0, none⟩ ∧ c = cap := by simpa using h1
    refine ⟨g, rfl, (Array.getElem?_eq_some_iff.1 h3).1, fun j u hu => ?_⟩
    have hj : j < 5 := (List.getElem?_eq_some_iff.1 hu).1
    rw [h.cellAt _ (by omega), brksC_get l i j hi hj, hu]
theorem BrkRow.below {w w' : World} {v : Value} {l : List Stp} (h : BrkRow w v l) (hb : Below w.heap.size w w') : BrkRow w' v l := by
  obtain ⟨a, c, e, h1⟩ := h
  refine ⟨a, c, e, fun i hi => ?_⟩
  obtain ⟨g, e2, h2, h3⟩ := h1 i hi
  exact ⟨g, e2, Nat.lt_of_lt_of_le h2 hb.size, fun j u hu => (hb.cell (p := ⟨g, i * 5 + j, none⟩) h2).trans (h3 j u hu)⟩
set_option maxHeartbeats 4000000 in
set_option maxRecDepth 100000 in
theorem rsame_any {W : World} {v1 v2 : Value} {l : List Stp} (h1 : BrkRow W v1 l) (h2 : BrkRow W v2 l) (hl : l.length ≤ 1000000) :
    Calls Tryz.prog 13 #[v1, v2] W fun e w' => e = .returned (.bool true) ∧ Below W.heap.size W w' := by
  obtain ⟨a1, c1, rfl, k1⟩ := h1
  obtain ⟨a2, c2, rfl, k2⟩ := h2
  replace k1 := Lib.hid k1
  replace k2 := Lib.hid k2
  obtain ⟨m, hm⟩ : ∃ m, l.length = m := ⟨_, rfl⟩
  rw [hm] at hl ⊢
  replace hm := Lib.hid hm
  have hq : ((m : Int) != (m : Int)) = false := by simp
  go_enter Tryz.func13, Tryz.ntmps13
  go_wp2_with fail
  go_loopg [5] m (fun gh u wr => ∃ i : Nat, gh = m - i ∧ u = .int .i64 (i : Int) ∧ i ≤ m ∧ Hid (Below W.heap.size W wr))
  case atStart => exact ⟨0, rfl, rfl, Nat.zero_le _, Lib.hid (Below.refl _ _)⟩
  case round =>
    obtain ⟨i, rfl, rfl, him, hb⟩ := hrel
    by_cases hlt : i < m
    · have hi' : i < l.length := by rw [hm.out]; exact hlt
      obtain ⟨g1, rfl, hg1, d1⟩ := k1.out i hi'
      obtain ⟨g2, rfl, hg2, d2⟩ := k2.out i hi'
      obtain ⟨x, hx⟩ : ∃ x, l[i] = x := ⟨_, rfl⟩
      rw [hx] at d1 d2
      have hbd : Below W.heap.size W wr.drew := hb.out.drew
      have p0 := (hbd.cell (p := ⟨g1, i * 5 + 0, none⟩) hg1).trans (d1 0 _ rfl)
      have p1 := (hbd.cell (p := ⟨g1, i * 5 + 1, none⟩) hg1).trans (d1 1 _ rfl)
      have p2 := (hbd.cell (p := ⟨g1, i * 5 + 2, none⟩) hg1).trans (d1 2 _ rfl)
      have p3 := (hbd.cell (p := ⟨g1, i * 5 + 3, none⟩) hg1).trans (d1 3 _ rfl)
      have p4 := (hbd.cell (p := ⟨g1, i * 5 + 4, none⟩) hg1).trans (d1 4 _ rfl)
      have q0 := (hbd.cell (p := ⟨g2, i * 5 + 0, none⟩) hg2).trans (d2 0 _ rfl)
      have q1 := (hbd.cell (p := ⟨g2, i * 5 + 1, none⟩) hg2).trans (d2 1 _ rfl)
      have q2 := (hbd.cell (p := ⟨g2, i * 5 + 2, none⟩) hg2).trans (d2 2 _ rfl)
      have q3 := (hbd.cell (p := ⟨g2, i * 5 + 3, none⟩) hg2).trans (d2 3 _ rfl)
      have q4 := (hbd.cell (p := ⟨g2, i * 5 + 4, none⟩) hg2).trans (d2 4 _ rfl)
      rw [Nat.add_zero] at p0 q0
      have hit : (i : Int) < (m : Int) := by omega
      have hi0 : (0 : Int) ≤ (i : Int) := by omega
      replace hx := Lib.hid hx
      replace hbd := Lib.hid hbd
      clear d1 d2
      go_upto_region 6 with fail
      go_region
      all_goals go_wp2_with fail
      all_goals go_roundg (m - (i + 1))
      case measure => omega
      case rel => exact ⟨i + 1, rfl, by go_num, by omega, Lib.hid hbd.out⟩
    · obtain rfl : i = m := by omega
      go_wp2_with fail
      go_ret
      exact ⟨rfl, hb.out⟩
/-- a row of numbers -/
def IntsRow (w : World) (v : Value) (xs : List Int) : Prop := ∃ a c, v = .slice a xs.length c ∧ ∀ i (hi : i < xs.length), ∃ g, a = some ⟨g, 0, none⟩ ∧ g < w.heap.size ∧ w.cell? ⟨g, i, none⟩ = some (.int .i64 xs[i])
theorem IntsRow.of {w : World} {base e : Nat} {v : Value} {xs : List Int} (h : w.ownsRow base e 1 v xs.length (xs.map (Value.int .i64))) : IntsRow w v xs := by
  obtain ⟨a, c, rfl⟩ := own_slice h
  refine ⟨a, c, rfl, fun i hi => ?_⟩
  rcases h.2 with ⟨h1, h2⟩ | ⟨g, cap, cur, h1, h2, h3, _⟩
  · omega
  · obtain ⟨rfl, rfl⟩ : a = some ⟨g, 0, none⟩ ∧ c = cap := by simpa using h1
    exact ⟨g, rfl, (Array.getElem?_eq_some_iff.1 h3).1, by rw [h.cellAt _ (by omega)]; simp [hi]⟩
theorem IntsRow.below {w w' : World} {v : Value} {xs : List Int} (h : IntsRow w v xs) (hb : Below w.heap.size w w') : IntsRow w' v xs := by
  obtain ⟨a, c, e, h1⟩ := h
  refine ⟨a, c, e, fun i hi => ?_⟩
  obtain ⟨g, e2, h2, h3⟩ := h1 i hi
  exact ⟨g, e2, Nat.lt_of_lt_of_le h2 hb.size, (hb.cell (p := ⟨g, i, none⟩) h2).trans h3⟩
set_option maxHeartbeats 4000000 in
set_option maxRecDepth 100000 in
theorem rints_any {W : World} {v1 v2 : Value} {xs : List Int} (h1 : IntsRow W v1 xs) (h2 : IntsRow W v2 xs) (hl : xs.length ≤ 1000000) :
    Calls Tryz.prog 15 #[v1, v2] W fun e w' => e = .returned (.bool true) ∧ Below W.heap.size W w' := by
  obtain ⟨a1, c1, rfl, k1⟩ := h1
  obtain ⟨a2, c2, rfl, k2⟩ := h2
  replace k1 := Lib.hid k1
  replace k2 := Lib.hid k2
  obtain ⟨m, hm⟩ : ∃ m, xs.length = m := ⟨_, rfl⟩
  rw [hm] at hl ⊢
  replace hm := Lib.hid hm
  have hq : ((m : Int) != (m : Int)) = false := by simp
  go_enter Tryz.func15, Tryz.ntmps15
  go_wp2_with fail
  go_loopg [5] m (fun gh u wr => ∃ i : Nat, gh = m - i ∧ u = .int .i64 (i : Int) ∧ i ≤ m ∧ Hid (Below W.heap.size W wr))
  case atStart => exact ⟨0, rfl, rfl, Nat.zero_le _, Lib.hid (Below.refl _ _)⟩
  case round =>
    obtain ⟨i, rfl, rfl, him, hb⟩ := hrel
    by_cases hlt : i < m
    · have hi' : i < xs.length := by rw [hm.out]; exact hlt
      obtain ⟨g1, rfl, hg1, d1⟩ := k1.out i hi'
      obtain ⟨g2, rfl, hg2, d2⟩ := k2.out i hi'
      obtain ⟨x, hx⟩ : ∃ x, xs[i] = x := ⟨_, rfl⟩
      rw [hx] at d1 d2
      have hbd : Below W.heap.size W wr.drew := hb.out.drew
      have p0 := (hbd.cell (p := ⟨g1, i, none⟩) hg1).trans d1
      have q0 := (hbd.cell (p := ⟨g2, i, none⟩) hg2).trans d2
      have hxx : (x != x) = false := by simp
      have hit : (i : Int) < (m : Int) := by omega
      have hi0 : (0 : Int) ≤ (i : Int) := by omega
      replace hx := Lib.hid hx
      replace hbd := Lib.hid hbd
      clear d1 d2
      go_upto_region 6 with fail
      go_region
      all_goals go_wp2_with fail
      all_goals go_roundg (m - (i + 1))
      case measure => omega
      case rel => exact ⟨i + 1, rfl, by go_num, by omega, Lib.hid hbd.out⟩
    · obtain rfl : i = m := by omega
      go_wp2_with fail
      go_ret
      exact ⟨rfl, hb.out⟩
end Go.Proofs.YtcjcflmnghhbaaaGreat
/-
  The reference's Delete; of chapter 28.
  Conditions: as each theorem states them.
-/
namespace Go.Proofs.YtcjcflmnghhbaaaGreat
open Go.RowKit
set_option linter.unusedVariables false
set_option linter.unusedSimpArgs false
theorem own_none (w : World) (e k : Nat) : (w.alloc (.cells #[] e)).ownsRow w.heap.size e k (.slice (some ⟨w.heap.size, 0, none⟩) 0 0) 0 [] :=
  ⟨by simp, .inr ⟨w.heap.size, 0, #[], rfl, Nat.le_refl _, heap_alloc_new w _, Nat.le_refl _, by decide, by simp, by simp⟩⟩
/-- the cells of a stretch of the reference's row -/
theorem RefL.src {W : World} {xb : Nat} {rv : Value} {l : List Stp} {last : Int} (h : RefL W xb rv l last) {g cap : Nat} (hv : rv = .slice (some ⟨g, 0, none⟩) l.length cap) {w : World} (hb : Below W.heap.size W w) (hg : g < W.heap.size) (o : Nat) (m : List Stp) (ho : ∀ i (hi : i < m.length), ∃ h : o + i < l.length, m[i] = l[o + i]) :
    ∀ j u, (brksC m)[j]? = some u → w.cell? ((⟨g, o * 5, none⟩ : Addr).add j) = some u := fun j u hu => by
  have hj : j < m.length * 5 := by rw [← brksC_len]; exact (List.getElem?_eq_some_iff.1 hu).1
  have e1 : (⟨g, o * 5, none⟩ : Addr).add j = ⟨g, o * 5 + j, none⟩ := by unfold Addr.add; by_cases h0 : j = 0 <;> simp [h0]
  have hr := h.row
  rw [hv] at hr
  obtain ⟨ho1, ho2⟩ := ho (j / 5) (by omega)
  have hd : j = j / 5 * 5 + j % 5 := by omega
  rw [e1, (hb.cell (p := ⟨g, o * 5 + j, none⟩) hg), hr.cellAt _ (by omega), show o * 5 + j = (o + j / 5) * 5 + j % 5 by omega, brksC_get l _ _ ho1 (by omega), ← ho2, ← brksC_get m _ _ (by omega) (by omega), ← hd]
  exact hu
theorem brksC_one (m : List Stp) : ∀ u ∈ brksC m, u.oneCell' = true := by
  intro u hu
  unfold brksC at hu
  obtain ⟨x, _, hx⟩ := List.mem_flatMap.1 hu
  exact brk_one x u hx
attribute [local go_sem ↓] run_cut_h run_cut_l
set_option maxHeartbeats 4000000 in
set_option maxRecDepth 100000 in
theorem rdelete_any {W : World} {xb : Nat} {rv : Value} {l : List Stp} {last : Int} (h : RefL W xb rv l last) (hI : Ids l last) (hl : l.length ≤ 1000) (id : Int) :
    Calls Tryz.prog 8 #[.pointer (some ⟨xb, 0, none⟩), .int .i64 id] W fun e w' => e = .returned (.int .i64 (if (delS id l).length = l.length then 6 else 0)) ∧ ∃ rv', RefL w' xb rv' (delS id l) last ∧ Only (RefK xb rv) W w' ∧ ∀ r, rv'.ownBlock = some r → rv.ownBlock = some r ∨ W.heap.size ≤ r := by
  have hf := Lib.hid (rat_any h (by omega) id)
  obtain ⟨i0, hi, hz0, hz1, hz2⟩ := info_parts infoBrk
  have xl := h.blk.lt
  cases hk : l.findIdx? (fun x => x.id == id) with
  | none =>
    have e1 : findP id l = -1 := by unfold findP; rw [hk]
    have e2 : delS id l = l := del_none (fun j hj => by have := List.findIdx?_eq_none_iff.1 hk l[j] (List.getElem_mem hj); simpa using this)
    rw [e1] at hf
    rw [e2, if_pos rfl]
    replace h := Lib.hid h
    clear hk e1 e2
    go_enter Tryz.func8, Tryz.ntmps8
    go_wp2_with (go_at_call 19; refine hf.out.mono ?_; rintro e w2 ⟨rfl, rfl⟩)
    go_ret
    exact ⟨rfl, _, h.out, Only.refl _ _, fun r hr => .inl hr⟩
  | some k =>
    obtain ⟨e1, hkl⟩ := findP_at hk
    have hke : (l[k].id == id) = true := by obtain ⟨h1, h2, _⟩ := List.findIdx?_eq_some_iff_getElem.1 hk; exact h2
    have e2 := del_at hI hkl hke
    have e3 : ¬ (delS id l).length = l.length := by rw [e2, List.length_append, List.length_take, List.length_drop]; omega
    rw [if_neg e3, e2]
    rw [e1] at hf
    obtain ⟨g, cap, rfl, hg, _⟩ := h.elem hkl
    have x0 : W.cell? ⟨xb, 0, none⟩ = some (.slice (some ⟨g, 0, none⟩) l.length cap) := h.blk.cell 0
    have hlc : l.length ≤ cap := by
      rcases h.row.2 with ⟨h1, _⟩ | ⟨g', cap', cur, h1, _, _, h4, _⟩
      · simp at h1
      · obtain ⟨_, rfl⟩ : g = g' ∧ cap = cap' := by simpa using h1
        exact h4
    have z0 : (0 : Int) ≤ (k : Int) := by omega
    have z1 : (k : Int) ≤ (cap : Int) := by omega
    have z2 : (0 : Int) ≤ (k : Int) + 1 := by omega
    have z3 : (k : Int) + 1 ≤ (l.length : Int) := by omega
    have hwk : IntKind.i64.wrap ((k : Int) + 1) = (k : Int) + 1 := IntWalk.i64_in _ (by omega)
    have hWb : Below W.heap.size W (W.alloc (.cells #[] 60)).drew := bl_drew (bl_alloc (Below.refl _ _) _)
    have hown0 : (W.alloc (.cells #[] 60)).drew.ownsRow W.heap.size 60 5 (.slice (some ⟨W.heap.size, 0, none⟩) 0 0) 0 [] := own_none W _ 5
    have hsr0 := h.src rfl hWb hg 0 (l.take k) (fun i hi => ⟨by simp at hi; omega, by rw [List.getElem_take]; congr 1; omega⟩)
    rw [Nat.zero_mul] at hsr0
    have hlk : (l.take k).length = k := by rw [List.length_take]; omega
    have hone0 := brksC_one (l.take k)
    have hc0 : (brksC (l.take k)).length = k * 5 := by rw [brksC_len, hlk]
    have hone1 := brksC_one (l.drop (k + 1))
    have hc1 : (brksC (l.drop (k + 1))).length = (l.length - (k + 1)) * 5 := by rw [brksC_len, List.length_drop]
    obtain ⟨ad2, hcut, hsr1⟩ : ∃ ad2, cutA (some ⟨g, 0, none⟩) (k + 1) cap 5 = some ad2 ∧ ∀ w, Below W.heap.size W w → ∀ j u, (brksC (l.drop (k + 1)))[j]? = some u → w.cell? (ad2.add j) = some u := by
      by_cases hkc : k + 1 = cap
      · refine ⟨⟨g, 0, none⟩, by unfold cutA; rw [if_pos hkc.symm], fun w _ j u hu => ?_⟩
        have : l.drop (k + 1) = [] := List.drop_eq_nil_of_le (by omega)
        rw [this] at hu
        simp [brksC] at hu
      · refine ⟨⟨g, (k + 1) * 5, none⟩, by unfold cutA; rw [if_neg (fun e => hkc e.symm)]; simp [Addr.add], fun w hb => h.src rfl hb hg (k + 1) (l.drop (k + 1)) (fun i hi => ⟨by simp at hi; omega, by rw [List.getElem_drop]⟩)⟩
    have hbl := Lib.hid h
    replace hsr0 := Lib.hid hsr0
    replace hsr1 := Lib.hid hsr1
    replace hown0 := Lib.hid hown0
    replace hone0 := Lib.hid hone0
    replace hone1 := Lib.hid hone1
    replace hc0 := Lib.hid hc0
    replace hc1 := Lib.hid hc1
    replace hlk := Lib.hid hlk
    replace hWb := Lib.hid hWb
    clear hk e1 e2 e3 hke h
    go_enter Tryz.func8, Tryz.ntmps8
    go_upto_region 4 with (go_at_call 19; refine hf.out.mono ?_; rintro e w2 ⟨rfl, rfl⟩)
    clear hf
    have hfst : ∀ v5 w5, w5.ownsRow W.heap.size 60 5 v5 (0 + k) ([] ++ brksC (l.take k)) → (W.alloc (.cells #[] 60)).drew.grownBy w5 (Value.slice (some ⟨W.heap.size, 0, none⟩) 0 0).ownBlock → Below W.heap.size W w5 := fun v5 w5 _ hg5 => hWb.out.grown hg5 (by simp) (fun j hj => by have : W.heap.size = j := Option.some.inj hj; omega)
    replace hfst := Lib.hid hfst
    have hcl : ∀ w5, Below W.heap.size W w5 → w5.cell? ⟨xb, 0, none⟩ = some (.slice (some ⟨g, 0, none⟩) l.length cap) ∧ w5.frozen? ⟨xb, 0, none⟩ = false ∧ xb < w5.heap.size := fun w5 hb => ⟨(hbl.out.blk.below hb).cell 0, (hbl.out.blk.below hb).free 0, (hbl.out.blk.below hb).lt⟩
    replace hcl := Lib.hid hcl
    replace hcut := Lib.hid hcut
    go_region_law (first
      | (rw [if_pos (by rfl)]; refine wp_append_at (.tmp 12) (.tmp 18) 41 (by rfl) W.heap.size 60 i0 _ 5 48 Tryz.underlying41 hi hz0 hz1 hz2 (by rfl) (by decide) (.slice (some ⟨W.heap.size, 0, none⟩) 0 0) 0 [] (by rfl) hown0.out ⟨g, 0, none⟩ k cap (brksC (l.take k)) (by rfl) hsr0.out hc0.out hone0.out (by unfold maxLen; omega) (by omega) (by simp) ?_; intro v5 w5 ho5 hg5 hv5; have hb5 := hfst.out v5 w5 ho5 hg5; obtain ⟨x5, f5, l5⟩ := hcl.out w5 hb5; have hsr5 := Lib.hid (hsr1.out w5 hb5); rw [Nat.zero_add, List.nil_append] at ho5; obtain ⟨a5, c5, rfl⟩ := own_slice ho5; replace ho5 := Lib.hid ho5; have hb5' := Lib.hid hb5; clear hg5 hv5 hb5; have h5s : W.heap.size ≤ w5.heap.size := hb5'.out.size)
      | (rw [if_pos (by rfl)]; refine wp_append_at (.tmp 19) (.tmp 26) 41 (by rfl) W.heap.size 60 i0 _ 5 48 Tryz.underlying41 hi hz0 hz1 hz2 (by rfl) (by decide) (.slice a5 k c5) k (brksC (l.take k)) (by rfl) ho5.out ad2 (l.length - (k + 1)) (cap - (k + 1)) (brksC (l.drop (k + 1))) (by exact congrArg (fun z => Value.slice z (l.length - (k + 1)) (cap - (k + 1))) hcut.out) hsr5.out hc1.out hone1.out (by unfold maxLen; omega) (by omega) h5s ?_; intro v7 w7 ho7 hg7 hv7; have hb7 := hb5'.out.grown hg7 h5s (fun j hj => (ho5.out.lt j hj).1); obtain ⟨x7, f7, l7⟩ := hcl.out w7 hb7; obtain ⟨a7, c7, rfl⟩ := own_slice ho7; replace ho7 := Lib.hid ho7; replace hb7 := Lib.hid hb7; clear hg7 hv7))
    all_goals go_wp2_with fail
    all_goals go_ret
    all_goals (
      have hlen : (l.take k ++ l.drop (k + 1)).length = k + (l.length - (k + 1)) := by rw [List.length_append, List.length_take, List.length_drop]; omega
      have hr : ∀ r, (Value.slice a7 (k + (l.length - (k + 1))) c7).ownBlock = some r → W.heap.size ≤ r := fun r hr => (ho7.out.lt r hr).1
      have hap : (Value.slice a7 (k + (l.length - (k + 1))) c7).ownBlock ≠ some xb := fun e => by have := hr xb e; omega
      refine ⟨rfl, _, ⟨(hbl.out.blk.below hb7.out).set 0 _, ?_, hap⟩, Only.setCell (S := RefK xb (.slice (some ⟨g, 0, none⟩) l.length cap)) (Only.of_below hb7.out) (p := ⟨xb, 0, none⟩) (.inl rfl) _, fun r e => .inr (hr r e)⟩
      rw [hlen, brksC_app]
      exact ownsRow_only (ownsRow_base ho7.out (Nat.zero_le _)) ((Only.refl (fun k => k = xb) w7).setCell (p := ⟨xb, 0, none⟩) rfl _) (fun r hr2 e => hap (by rw [hr2, e])))
end Go.Proofs.YtcjcflmnghhbaaaGreat
