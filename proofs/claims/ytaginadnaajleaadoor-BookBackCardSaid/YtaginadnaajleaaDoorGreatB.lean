/-
  palinoderef32.Great: is there more of a case than is looked at?; of chapter 32 (printed by gen_great.py).
  Conditions: as each theorem states them.
-/
import Derived.Test.YtaginadnaajleaaDoorFla
import Derived.Deep.LoopGhost
namespace Go.Proofs.YtaginadnaajleaaDoor
open Go.RowKit
set_option linter.unusedVariables false
set_option linter.unusedSimpArgs false
open BM (Cs)
/-- what is looked at -/
structure Seen (c : Cs) : Prop where
  sed : c.sed.length ≤ 300
  inputs : c.inputs.length ≤ 20
  files : c.files.length ≤ 20
  lines : c.lines.length ≤ 40
  inp : ∀ j (h : j < c.inputs.length), c.inputs[j].length ≤ 100
  fil : ∀ j (h : j < c.files.length), c.files[j].1.length ≤ 100 ∧ c.files[j].2.length ≤ 300
  lin : ∀ j (h : j < c.lines.length), c.lines[j].length ≤ 100
/-- what may be compared -/
structure Fits (c : Cs) : Prop where
  sed : c.sed.length ≤ 100000000000
  inputs : c.inputs.length ≤ 1000000
  files : c.files.length ≤ 1000000
  lines : c.lines.length ≤ 1000000
  fil : ∀ p ∈ c.files, p.2.length ≤ 1000000
theorem Seen.fits {c : Cs} (h : Seen c) : Fits c :=
  ⟨by have := h.sed; omega, by have := h.inputs; omega, by have := h.files; omega, by have := h.lines; omega, fun p hp => by obtain ⟨j, hj, rfl⟩ := List.mem_iff_getElem.1 hp; have := (h.fil j hj).2; omega⟩
def GreatIs (c : Cs) (w : World) (e : Ending) (w' : World) : Prop := ∃ g, e = .returned (.bool g) ∧ (g = false → Seen c) ∧ Below w.heap.size w w'
theorem cells11g {w : World} {g : Nat} {t : TypeId} {v0 v1 v2 v3 v4 v5 v6 v7 v8 v9 v10 : Value} (h : Blk w g t [v0, v1, v2, v3, v4, v5, v6, v7, v8, v9, v10]) :
    w.cell? ⟨g, 0, none⟩ = some v0 ∧ w.cell? ⟨g, 5, none⟩ = some v5 ∧ w.cell? ⟨g, 6, none⟩ = some v6 ∧ w.cell? ⟨g, 10, none⟩ = some v10 := ⟨h.cell 0, h.cell 5, h.cell 6, h.cell 10⟩
set_option maxHeartbeats 4000000 in
set_option maxRecDepth 100000 in
theorem great_any (c : Cs) (sa ia fa la : Option Addr) (sc ic fc lc : Nat) (w : World) (h : CsAt w c (.slice sa c.sed.length sc) (.slice ia c.inputs.length ic) (.slice fa c.files.length fc) (.slice la c.lines.length lc))
    (ms : c.sed.length ≤ 9223372036854775807) (mi : c.inputs.length ≤ 9223372036854775807) (mf : c.files.length ≤ 9223372036854775807) (ml : c.lines.length ≤ 9223372036854775807) :
    Calls Tryd.prog 10 #[.agg #[.slice sa c.sed.length sc, .bool c.quiet, .bool c.separate, .bool c.place, .bool c.extended, .slice ia c.inputs.length ic, .slice fa c.files.length fc, .int .i64 c.cap, .int .i64 c.period, .int .i64 c.fuel, .slice la c.lines.length lc]] w (GreatIs c w) := by
  obtain ⟨W, hW⟩ : ∃ W, w.alloc (.cells ([.slice sa c.sed.length sc, .bool c.quiet, .bool c.separate, .bool c.place, .bool c.extended, .slice ia c.inputs.length ic, .slice fa c.files.length fc, .int .i64 c.cap, .int .i64 c.period, .int .i64 c.fuel, .slice la c.lines.length lc] : List Value).toArray 29) = W := ⟨_, rfl⟩
  have hB : Below w.heap.size w W := by rw [← hW]; exact bl_alloc (Below.refl _ _) _
  have hk := Blk.new w 29 [.slice sa c.sed.length sc, .bool c.quiet, .bool c.separate, .bool c.place, .bool c.extended, .slice ia c.inputs.length ic, .slice fa c.files.length fc, .int .i64 c.cap, .int .i64 c.period, .int .i64 c.fuel, .slice la c.lines.length lc]
  rw [hW] at hk
  obtain ⟨k0, k5, k6, k10⟩ := cells11g hk
  clear hk
  have hi := h.inp.below hB
  have hf := h.fil.below hB
  have hl := h.lin.below hB
  obtain ⟨_, _, q, _, hi⟩ := hi
  injection q with q1 q2 q3
  subst q1 q3
  obtain ⟨_, _, q, _, hf⟩ := hf
  injection q with q1 q2 q3
  subst q1 q3
  obtain ⟨_, _, q, _, hl⟩ := hl
  injection q with q1 q2 q3
  subst q1 q3
  have hfin := Lib.hid (fun (b1 : c.sed.length ≤ 300) (b2 : c.inputs.length ≤ 20) (b3 : c.files.length ≤ 20) (b4 : c.lines.length ≤ 40) (i1 : ∀ j (h : j < c.inputs.length), c.inputs[j].length ≤ 100) (i2 : ∀ j (h : j < c.files.length), c.files[j].1.length ≤ 100 ∧ c.files[j].2.length ≤ 300) (i3 : ∀ j (h : j < c.lines.length), c.lines[j].length ≤ 100) => (⟨b1, b2, b3, b4, i1, i2, i3⟩ : Seen c))
  clear h
  replace hB := Lib.hid hB
  by_cases h1 : 300 < c.sed.length
  · have q1 : decide ((300 : Int) < (c.sed.length : Int)) = true := by rw [decide_eq_true_eq]; omega
    clear hi hf hl
    go_enter Tryd.func10, Tryd.ntmps10
    go_upto_region 1 with fail
    try rw [hW]
    clear hW
    go_wp2_with fail
    all_goals go_ret
    all_goals exact ⟨true, rfl, (fun h => by cases h), hB.out⟩
  have q1 : decide ((300 : Int) < (c.sed.length : Int)) = false := by rw [decide_eq_false_iff_not]; omega
  by_cases h2 : 20 < c.inputs.length
  · have q2 : decide ((20 : Int) < (c.inputs.length : Int)) = true := by rw [decide_eq_true_eq]; omega
    clear hi hf hl
    go_enter Tryd.func10, Tryd.ntmps10
    go_upto_region 1 with fail
    try rw [hW]
    clear hW
    go_wp2_with fail
    all_goals go_ret
    all_goals exact ⟨true, rfl, (fun h => by cases h), hB.out⟩
  have q2 : decide ((20 : Int) < (c.inputs.length : Int)) = false := by rw [decide_eq_false_iff_not]; omega
  by_cases h3 : 20 < c.files.length
  · have q3 : decide ((20 : Int) < (c.files.length : Int)) = true := by rw [decide_eq_true_eq]; omega
    clear hi hf hl
    go_enter Tryd.func10, Tryd.ntmps10
    go_upto_region 1 with fail
    try rw [hW]
    clear hW
    go_wp2_with fail
    all_goals go_ret
    all_goals exact ⟨true, rfl, (fun h => by cases h), hB.out⟩
  have q3 : decide ((20 : Int) < (c.files.length : Int)) = false := by rw [decide_eq_false_iff_not]; omega
  by_cases h4 : 40 < c.lines.length
  · have q4 : decide ((40 : Int) < (c.lines.length : Int)) = true := by rw [decide_eq_true_eq]; omega
    clear hi hf hl
    go_enter Tryd.func10, Tryd.ntmps10
    go_upto_region 1 with fail
    try rw [hW]
    clear hW
    go_wp2_with fail
    all_goals go_ret
    all_goals exact ⟨true, rfl, (fun h => by cases h), hB.out⟩
  have q4 : decide ((40 : Int) < (c.lines.length : Int)) = false := by rw [decide_eq_false_iff_not]; omega
  have b1 : c.sed.length ≤ 300 := by omega
  have b2 : c.inputs.length ≤ 20 := by omega
  have b3 : c.files.length ≤ 20 := by omega
  have b4 : c.lines.length ≤ 40 := by omega
  replace hfin := Lib.hid (hfin.out b1 b2 b3 b4)
  replace hi : Hid (TxtAt W ia c.inputs) := Lib.hid hi
  replace hl : Hid (TxtAt W la c.lines) := Lib.hid hl
  replace hf : Hid (FilAt W fa c.files) := Lib.hid hf
  obtain ⟨is, his⟩ : ∃ is, c.inputs = is := ⟨_, rfl⟩
  obtain ⟨fs, hfs⟩ : ∃ fs, c.files = fs := ⟨_, rfl⟩
  obtain ⟨ls, hls⟩ : ∃ ls, c.lines = ls := ⟨_, rfl⟩
  obtain ⟨ni, hni⟩ : ∃ n, is.length = n := ⟨_, rfl⟩
  obtain ⟨nf, hnf⟩ : ∃ n, fs.length = n := ⟨_, rfl⟩
  obtain ⟨nl, hnl⟩ : ∃ n, ls.length = n := ⟨_, rfl⟩
  rw [his] at hi hfin b2 q2 k5 hW
  rw [hfs] at hf hfin b3 q3 k6 hW
  rw [hls] at hl hfin b4 q4 k10 hW
  rw [his, hfs, hls]
  rw [hni] at b2 q2 k5 hW
  rw [hnf] at b3 q3 k6 hW
  rw [hnl] at b4 q4 k10 hW
  rw [hni, hnf, hnl]
  replace hni := Lib.hid hni
  replace hnf := Lib.hid hnf
  replace hnl := Lib.hid hnl
  clear h1 h2 h3 h4 his hfs hls mi mf ml
  go_enter Tryd.func10, Tryd.ntmps10
  go_upto_region 1 with fail
  try rw [hW]
  clear hW
  go_wp2_with fail
  go_loopg [3] ni (fun gh i wr => ∃ k : Nat, gh = ni - k ∧ i = .int .i64 (k : Int) ∧ k ≤ ni ∧ Hid (∀ j (h : j < is.length), j < k → is[j].length ≤ 100) ∧ W = wr)
  case atStart => exact ⟨0, rfl, rfl, by omega, Lib.hid (fun j h h0 => by omega), rfl⟩
  case round =>
    obtain ⟨k, rfl, rfl, hk, ht, rfl⟩ := hrel
    by_cases hlt : k < ni
    · have k1 : k < is.length := by rw [hni.out]; exact hlt
      obtain ⟨p, o, rfl, hp, hr⟩ := hi.out (by omega)
      have hib : (k : Int) < (ni : Int) := by omega
      have e1 := hr k k1
      clear hr
      unfold strV at e1
      obtain ⟨t, hte⟩ : ∃ t, is[k] = t := ⟨_, rfl⟩
      rw [hte] at e1
      by_cases hc : 100 < t.length
      · have q5 : decide ((100 : Int) < (t.length : Int)) = true := by rw [decide_eq_true_eq]; omega
        clear hte
        go_wp2_with fail
        all_goals go_ret
        all_goals exact ⟨true, rfl, (fun h => by cases h), hB.out⟩
      · have q5 : decide ((100 : Int) < (t.length : Int)) = false := by rw [decide_eq_false_iff_not]; omega
        have ht2 := Lib.hid (show ∀ j (h : j < is.length), j < k + 1 → is[j].length ≤ 100 from fun j hj h => by rcases Nat.lt_succ_iff_lt_or_eq.1 h with h | rfl; (exact ht.out j hj h); (rw [hte]; omega))
        clear hte ht
        go_wp2_with fail
        all_goals go_roundg (ni - (k + 1))
        case measure => omega
        case rel => exact ⟨k + 1, rfl, by go_num, by omega, ht2, rfl⟩
    · obtain rfl : k = ni := by omega
      replace hfin := Lib.hid (hfin.out (fun j h => ht.out j h (by rw [← hni.out]; exact h)))
      clear ht
      go_wp2_with fail
      go_loopg [4] nf (fun gh i wr => ∃ k : Nat, gh = nf - k ∧ i = .int .i64 (k : Int) ∧ k ≤ nf ∧ Hid (∀ j (h : j < fs.length), j < k → fs[j].1.length ≤ 100 ∧ fs[j].2.length ≤ 300) ∧ W = wr)
      case atStart => exact ⟨0, rfl, rfl, by omega, Lib.hid (fun j h h0 => by omega), rfl⟩
      case round =>
        obtain ⟨k, rfl, rfl, hk, ht, rfl⟩ := hrel
        by_cases hlt : k < nf
        · have k1 : k < fs.length := by rw [hnf.out]; exact hlt
          obtain ⟨p, o, rfl, hp, hr⟩ := hf.out (by omega)
          have hib : (k : Int) < (nf : Int) := by omega
          obtain ⟨e1, u, e2, hu⟩ := hr k k1
          clear hr
          obtain ⟨ba, bc, rfl, _, _⟩ := hu
          unfold strV at e1
          obtain ⟨t, hte⟩ : ∃ t, fs[k] = t := ⟨_, rfl⟩
          rw [hte] at e1 e2
          obtain ⟨t1, t2⟩ := t
          simp only at e1 e2
          by_cases hc : 100 < t1.length
          · have q5 : decide ((100 : Int) < (t1.length : Int)) = true := by rw [decide_eq_true_eq]; omega
            clear hte
            go_wp2_with fail
            all_goals go_ret
            all_goals exact ⟨true, rfl, (fun h => by cases h), hB.out⟩
          · have q5 : decide ((100 : Int) < (t1.length : Int)) = false := by rw [decide_eq_false_iff_not]; omega
            by_cases hd : 300 < t2.length
            · have q6 : decide ((300 : Int) < (t2.length : Int)) = true := by rw [decide_eq_true_eq]; omega
              clear hte
              go_wp2_with fail
              all_goals go_ret
              all_goals exact ⟨true, rfl, (fun h => by cases h), hB.out⟩
            · have q6 : decide ((300 : Int) < (t2.length : Int)) = false := by rw [decide_eq_false_iff_not]; omega
              have ht2 := Lib.hid (show ∀ j (h : j < fs.length), j < k + 1 → fs[j].1.length ≤ 100 ∧ fs[j].2.length ≤ 300 from fun j hj h => by rcases Nat.lt_succ_iff_lt_or_eq.1 h with h | rfl; (exact ht.out j hj h); (rw [hte]; exact ⟨by simp only; omega, by simp only; omega⟩))
              clear hte ht
              go_wp2_with fail
              all_goals go_roundg (nf - (k + 1))
              case measure => omega
              case rel => exact ⟨k + 1, rfl, by go_num, by omega, ht2, rfl⟩
        · obtain rfl : k = nf := by omega
          replace hfin := Lib.hid (hfin.out (fun j h => ht.out j h (by rw [← hnf.out]; exact h)))
          clear ht
          go_wp2_with fail
          go_loopg [5] nl (fun gh i wr => ∃ k : Nat, gh = nl - k ∧ i = .int .i64 (k : Int) ∧ k ≤ nl ∧ Hid (∀ j (h : j < ls.length), j < k → ls[j].length ≤ 100) ∧ W = wr)
          case atStart => exact ⟨0, rfl, rfl, by omega, Lib.hid (fun j h h0 => by omega), rfl⟩
          case round =>
            obtain ⟨k, rfl, rfl, hk, ht, rfl⟩ := hrel
            by_cases hlt : k < nl
            · have k1 : k < ls.length := by rw [hnl.out]; exact hlt
              obtain ⟨p, o, rfl, hp, hr⟩ := hl.out (by omega)
              have hib : (k : Int) < (nl : Int) := by omega
              have e1 := hr k k1
              clear hr
              unfold strV at e1
              obtain ⟨t, hte⟩ : ∃ t, ls[k] = t := ⟨_, rfl⟩
              rw [hte] at e1
              by_cases hc : 100 < t.length
              · have q5 : decide ((100 : Int) < (t.length : Int)) = true := by rw [decide_eq_true_eq]; omega
                clear hte
                go_wp2_with fail
                all_goals go_ret
                all_goals exact ⟨true, rfl, (fun h => by cases h), hB.out⟩
              · have q5 : decide ((100 : Int) < (t.length : Int)) = false := by rw [decide_eq_false_iff_not]; omega
                have ht2 := Lib.hid (show ∀ j (h : j < ls.length), j < k + 1 → ls[j].length ≤ 100 from fun j hj h => by rcases Nat.lt_succ_iff_lt_or_eq.1 h with h | rfl; (exact ht.out j hj h); (rw [hte]; omega))
                clear hte ht
                go_wp2_with fail
                all_goals go_roundg (nl - (k + 1))
                case measure => omega
                case rel => exact ⟨k + 1, rfl, by go_num, by omega, ht2, rfl⟩
            · obtain rfl : k = nl := by omega
              have hz := Lib.hid (hfin.out (fun j h => ht.out j h (by rw [← hnl.out]; exact h)))
              clear ht
              go_wp2_with fail
              go_ret
              exact ⟨false, rfl, fun _ => hz.out, hB.out⟩
end Go.Proofs.YtaginadnaajleaaDoor
