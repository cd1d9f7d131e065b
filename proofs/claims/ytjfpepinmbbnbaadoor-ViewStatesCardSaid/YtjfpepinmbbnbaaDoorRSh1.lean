/-
  The reference's Show at any state (what waits; the files), of chapter 30.
  Conditions: as each theorem states them.
-/
import Derived.Test.YtjfpepinmbbnbaaDoorRSh0
import Derived.Deep.DeepMust
import Derived.Deep.AppendLies
import Derived.Deep.RegionHeld3
namespace Go.Proofs.YtjfpepinmbbnbaaDoor
open Go.RowKit
set_option linter.unusedVariables false
set_option linter.unusedSimpArgs false
theorem cell_al2 {w : World} {o : Obj} {b i : Nat} {v : Value} (h : b < w.heap.size) (hc : w.cell? ⟨b, i, none⟩ = some v) : (w.alloc o).cell? ⟨b, i, none⟩ = some v := ((bl_alloc (Below.refl w.heap.size w) o).cell (p := ⟨b, i, none⟩) h).trans hc
theorem wait_word (x : Wt) : (if x.kind = 1 then ⟨#[102, 105, 108, 101, 32]⟩ else ⟨#[116, 101, 120, 116, 32]⟩) ++ ⟨(quoteS x.bytes).toArray⟩ = waitS x := by
  unfold waitS kindW
  rw [rowS_fold]
  simp only [List.foldl]
  rw [← ByteArray.append_assoc]
  congr 1
  split <;> rfl
theorem file_word (x : Fl) : ⟨(quoteS x.name).toArray⟩ ++ numW x.n = fileS x := by
  unfold fileS numW
  rw [rowS_fold]; rfl
set_option maxHeartbeats 4000000 in
set_option maxRecDepth 100000 in
theorem rshow_waits (s : StC) (b : StB) (w : World) (hst : StAt w s b) :
    Calls Tryd.prog 37 #[.agg s.cells.toArray, .string ⟨#[119, 97, 105, 116, 115]⟩] w (ShowIs (some (b.waits.map waitS)) w) := by
  obtain ⟨i0, hi, hz0, hz1, hz2⟩ := info_parts info9_
  have hz := (Blk.new w 66 s.cells)
  have hb1 : Below w.heap.size w (w.alloc (.cells s.cells.toArray 66)) := bl_alloc (Below.refl _ _) _
  obtain ⟨W1, hW1⟩ : ∃ W1, w.alloc (.cells s.cells.toArray 66) = W1 := ⟨_, rfl⟩
  rw [hW1] at hz hb1
  have hlt := hz.lt
  have hcell : ∀ (W : World), Below W1.heap.size W1 W → W.cell? ⟨w.heap.size, 24, none⟩ = some (.slice s.waits.a s.waits.n s.waits.c) := fun W hW => (hz.below hW).cell 24
  rw [hst.waitsN] at hcell
  have ha := hst.waitsAt
  have hl := hst.waitsL
  have hsz1 := hb1.size
  clear hst hz
  replace hcell := Lib.hid hcell
  generalize s.cells.toArray = cs at *
  generalize s.waits.a = wa at *
  generalize s.waits.c = wc at *
  generalize b.waits = l at *
  have c24 := hcell.out W1 (Below.refl _ _)
  replace ha := Lib.hid ha
  go_enter Tryd.func37, Tryd.ntmps37
  go_wp2_with fail
  clear hW1 c24
  go_loopg [6, 8] l.length (fun gh v i wr => ∃ k : Nat, gh = l.length - k ∧ i = .int .i64 (k : Int) ∧ k ≤ l.length ∧ wr.ownsRow W1.heap.size 9 1 v k (((l.take k).map waitS).map Value.string) ∧ Below W1.heap.size W1 wr)
  case atStart => exact ⟨0, rfl, rfl, by omega, World.ownsRow_nil _ _ _ _, Below.refl _ _⟩
  case round =>
    obtain ⟨k, rfl, rfl, hk, hown, hb⟩ := hrel
    have hsz := hb.size
    have c24 := hcell.out wr hb
    by_cases hltk : k < l.length
    · obtain ⟨bb, o, rfl, hbl, hc⟩ := ha.out (by omega)
      obtain ⟨d0, d1, d2, d3⟩ := hc k hltk
      have hstep : (l.take (k + 1)).map waitS = (l.take k).map waitS ++ [waitS l[k]] := by rw [List.take_succ_eq_append_getElem hltk, List.map_append]; rfl
      generalize l[k] = x at *
      have hB1 := bl_trans hb1 hb
      have e0 := (hB1.cell (p := ⟨bb, o + k * 2, none⟩) hbl).trans d0
      have e1 := (hB1.cell (p := ⟨bb, o + k * 2 + 1, none⟩) hbl).trans d1
      have hq := (rquote_any x.sl.a x.sl.c x.bytes wr (by omega) (d2.below hB1)).mono (R' := fun e w' => e = .returned (.string ⟨(quoteS x.bytes).toArray⟩) ∧ Below wr.heap.size wr w') (fun e w' h => h)
      have hww := wait_word x
      have hql := quoteS_len x.bytes
      have hqz : (⟨(quoteS x.bytes).toArray⟩ : ByteArray).size ≤ 20000 := by show (quoteS x.bytes).toArray.size ≤ _; rw [List.size_toArray]; omega
      replace hstep := Lib.hid hstep
      have hbr : bb < wr.heap.size := by omega
      clear hc d0 d1 d2 hB1
      generalize (⟨(quoteS x.bytes).toArray⟩ : ByteArray) = q at *
      replace hq := Lib.hid hq
      by_cases hk1 : x.kind = 1
      all_goals (
        first | (have hkb : (x.kind == 1) = true := by simpa using hk1) | (have hkb : (x.kind == 1) = false := by simpa using hk1)
        simp only [hk1, if_true, if_false] at hww
        replace hww := Lib.hid hww
        replace hk1 := Lib.hid hk1
        go_wp2_with (first
          | (go_at_call 71; refine hq.out.mono ?_; rintro e w7 ⟨rfl, hb7⟩; have hown7 := own_blw hown hb7; have hB7 := bl_trans hb hb7; have hz7 := hB7.size)
          | (at_builtin; go_must (refine wpList_append_own _ rfl (.tmp 111) (.tmp 121) 68 rfl W1.heap.size 9 i0 (.string ⟨#[]⟩) 1 16 Tryd.underlying68 hi hz0 hz1 hz2 rfl (by decide) _ _ _ rfl (hown7.alloc _) ⟨w7.heap.size, 0, none⟩ 1 1 [.string (waitS x)] rfl rfl (by rw [hww.out]; exact cell_one_new _ _ _) (by intro u hu; simp at hu; subst hu; rfl) (by unfold maxLen; omega) (by omega) (by simp; omega) ?_); intro v1 w1 hown1 hgrow1 hnil1))
        all_goals go_roundg (l.length - (k + 1))
        case measure => omega
        case rel => exact ⟨k + 1, rfl, by go_num, by omega, by rw [hstep.out, List.map_append]; exact hown1, (hB7.alloc (by omega) _).grown hgrow1 (by simp; omega) (fun j hj => (hown7.lt j hj).1)⟩)
    · obtain rfl : k = l.length := by omega
      rw [List.take_length] at hown
      go_wp2_with fail
      go_ret2
      exact ⟨_, rfl, StrsAt.own (by rw [show (some (l.map waitS)).getD [] = l.map waitS from rfl, List.length_map]; exact hown), bl_trans hb1 hb⟩
/-- the conversion in the region, by a name: the region's tactic then does not try it as one that only reads -/
def rshConv : Op := .convert 9 22 (.tmp 139)
attribute [local go_sem] rshConv
set_option maxHeartbeats 4000000 in
set_option maxRecDepth 100000 in
theorem rshow_files (s : StC) (b : StB) (w : World) (hst : StAt w s b) :
    Calls Tryd.prog 37 #[.agg s.cells.toArray, .string ⟨#[102, 105, 108, 101, 115]⟩] w (ShowIs (some ((b.files.map (·.fl)).map fileS)) w) := by
  obtain ⟨i0, hi, hz0, hz1, hz2⟩ := info_parts info9_
  have hz := (Blk.new w 66 s.cells)
  have hb1 : Below w.heap.size w (w.alloc (.cells s.cells.toArray 66)) := bl_alloc (Below.refl _ _) _
  obtain ⟨W1, hW1⟩ : ∃ W1, w.alloc (.cells s.cells.toArray 66) = W1 := ⟨_, rfl⟩
  rw [hW1] at hz hb1
  have hlt := hz.lt
  have hcell : ∀ (W : World), Below W1.heap.size W1 W → W.cell? ⟨w.heap.size, 25, none⟩ = some (.slice s.files.a s.files.n s.files.c) := fun W hW => (hz.below hW).cell 25
  have hl : (b.files.map (·.fl)).length ≤ 3000 := by rw [List.length_map]; exact hst.filesL
  have hnl : s.files.n = (b.files.map (·.fl)).length := by rw [List.length_map]; exact hst.filesN
  rw [hnl] at hcell
  have ha := hst.filesAt
  have hsz1 := hb1.size
  clear hst hz hnl
  replace hcell := Lib.hid hcell
  generalize s.cells.toArray = cs at *
  generalize s.files.a = wa at *
  generalize s.files.c = wc at *
  generalize b.files.map (·.fl) = l at *
  have c25 := hcell.out W1 (Below.refl _ _)
  replace ha := Lib.hid ha
  go_enter Tryd.func37, Tryd.ntmps37
  go_wp2_with fail
  clear hW1 c25
  go_loopg [6, 10] l.length (fun gh v i wr => ∃ k : Nat, gh = l.length - k ∧ i = .int .i64 (k : Int) ∧ k ≤ l.length ∧ wr.ownsRow W1.heap.size 9 1 v k (((l.take k).map fileS).map Value.string) ∧ Below W1.heap.size W1 wr)
  case atStart => exact ⟨0, rfl, rfl, by omega, World.ownsRow_nil _ _ _ _, Below.refl _ _⟩
  case round =>
    obtain ⟨k, rfl, rfl, hk, hown, hb⟩ := hrel
    have hsz := hb.size
    have c25 := hcell.out wr hb
    by_cases hltk : k < l.length
    · obtain ⟨bb, o, rfl, hbl, hc⟩ := ha.out (by omega)
      obtain ⟨d0, d1, d2, d3⟩ := hc k hltk
      have hstep : (l.take (k + 1)).map fileS = (l.take k).map fileS ++ [fileS l[k]] := by rw [List.take_succ_eq_append_getElem hltk, List.map_append]; rfl
      generalize l[k] = x at *
      have hB1 := bl_trans hb1 hb
      have e0 := (hB1.cell (p := ⟨bb, o + k * 2, none⟩) hbl).trans d0
      have e1 := (hB1.cell (p := ⟨bb, o + k * 2 + 1, none⟩) hbl).trans d1
      have hbr : bb < wr.heap.size := by omega
      have hgr : w.heap.size < wr.heap.size := by omega
      have hfw := file_word x
      have hql := quoteS_len x.name
      have hqz : (⟨(quoteS x.name).toArray⟩ : ByteArray).size ≤ 20000 := by show (quoteS x.name).toArray.size ≤ _; rw [List.size_toArray]; omega
      have hnz := numW_size (x.n : Int) (by omega)
      replace hstep := Lib.hid hstep
      clear hc d0 d1 hB1
      go_upto_region 29 with fail
      have hkk := Lib.hid (fun (Y : World) (hY : Below wr.heap.size wr Y) => (⟨(hY.cell (p := ⟨w.heap.size, 25, none⟩) hgr).trans c25, (hY.cell (p := ⟨bb, o + k * 2, none⟩) hbr).trans e0, (hY.cell (p := ⟨bb, o + k * 2 + 1, none⟩) hbr).trans e1⟩ : Y.cell? ⟨w.heap.size, 25, none⟩ = some (.slice (some ⟨bb, o, none⟩) l.length wc) ∧ Y.cell? ⟨bb, o + k * 2, none⟩ = some (strV x.name) ∧ Y.cell? ⟨bb, o + k * 2 + 1, none⟩ = some (.slice x.a x.n x.c)))
      obtain ⟨c2, w2, hc2, hb2, hr2, hl2⟩ := conv_bytes (P := Tryd.prog) wr.drew 9 22 5 x.name Tryd.underlying9 Tryd.underlying22 Tryd.underlying5
      have sz2 : wr.drew.heap.size = wr.heap.size := rfl
      rw [sz2] at hc2 hr2 hl2
      have hI := hkk.out wr.drew (bl_drew (Below.refl _ _))
      have hb2' : Below wr.heap.size wr w2 := bl_trans (bl_drew (Below.refl _ _)) hb2
      have hqt := Lib.hid (rquote_any (some ⟨wr.heap.size, 0, none⟩) c2 x.name w2 (by omega) (fun _ => ⟨_, _, rfl, hl2, hr2⟩))
      have htx := Lib.hid (fun (W : World) => num_any30 (x.n : Int) (by omega) W)
      have hI2 := hkk.out w2 hb2'
      replace hb2' := Lib.hid hb2'
      have m1 : k + 1 ≤ maxLen := by unfold maxLen; omega
      have m2 : (k + 1) * 16 ≤ 140737488355328 := by omega
      have hap := Lib.hid (fun (w9 : World) (hB9 : Below wr.heap.size wr w9) (ob : Obj) (wA : World) (u3 : Value) (q : (w9.alloc ob).grownBy wA u3.ownBlock) (hn : ∀ j, u3.ownBlock = some j → W1.heap.size ≤ j) => (by
        have hs9 := hB9.size
        obtain ⟨f1, f2, f3⟩ := hkk.out w9 hB9
        have n1 : some w.heap.size ≠ u3.ownBlock := fun e => by have := hn _ e.symm; omega
        have n2 : some bb ≠ u3.ownBlock := fun e => by have := hn _ e.symm; omega
        exact ⟨q.cell ((cell_al2 (by omega) f1)) n1, q.cell ((cell_al2 (by omega) f2)) n2, q.cell ((cell_al2 (by omega) f3)) n2⟩ : wA.cell? ⟨w.heap.size, 25, none⟩ = some (.slice (some ⟨bb, o, none⟩) l.length wc) ∧ wA.cell? ⟨bb, o + k * 2, none⟩ = some (strV x.name) ∧ wA.cell? ⟨bb, o + k * 2 + 1, none⟩ = some (.slice x.a x.n x.c)))
      have hqt2 := hqt.out.mono (R' := fun e w' => e = .returned (.string ⟨(quoteS x.name).toArray⟩) ∧ Below w2.heap.size w2 w') (fun e w' h => h)
      have hb0 : Below wr.heap.size wr wr := Below.refl _ _
      replace hown := Lib.hid hown
      replace hb := Lib.hid hb
      clear hqt hb2 hr2 e0 e1 sz2 c25 hql d2 hb0
      generalize (⟨(quoteS x.name).toArray⟩ : ByteArray) = q at *
      generalize numW x.n = y at *
      replace hqt2 := Lib.hid hqt2
      replace hfw := Lib.hid hfw
      have m3 : ¬ 9223372036854775807 < q.size + y.size := by omega
      generalize u6 = u3 at *
      rw [show Op.convert 9 22 (.tmp 139) = rshConv from rfl]
      go_region_held3 (fun w' => w'.cell? ⟨w.heap.size, 25, none⟩ = some (.slice (some ⟨bb, o, none⟩) l.length wc) ∧ w'.cell? ⟨bb, o + k * 2, none⟩ = some (strV x.name) ∧ w'.cell? ⟨bb, o + k * 2 + 1, none⟩ = some (.slice x.a x.n x.c)) (first | with_reducible exact hI | with_reducible exact hI2 | exact hkk.out _ (bl_alloc hB8 _))
        (first
        | (go_at_call 71; (with_reducible refine hqt2.out.mono ?_); rintro e w7 ⟨rfl, hb7⟩; have hB7 := bl_trans hb2'.out hb7; have hI := hkk.out _ hB7)
        | (go_at_call 62; refine (htx.out _).mono ?_; rintro e w8 ⟨rfl, hb8⟩; have hB8 := bl_trans hB7 hb8; have hI := hkk.out _ hB8; have hz8 := hB8.size; have hown8 := Lib.hid (own_blw hown.out hB8))
        | (refine step_append_lies _ rfl (.tmp 133) (.tmp 151) 68 rfl W1.heap.size 9 i0 _ 1 16 Tryd.underlying68 hi hz0 hz1 hz2 rfl Nat.zero_lt_one u3 k (((l.take k).map fileS).map Value.string) rfl (hown8.out.alloc _) ⟨w8.heap.size, 0, none⟩ 1 1 [.string (fileS x)] rfl rfl (by rw [hfw.out]; exact cell_one_new _ _ _) (by intro u hu; simp at hu; subst hu; rfl) Nat.zero_lt_one m1 m2 (by simp; omega) _ rfl ?_; intro gA cA wA oA qA _ _; have hI := hap.out _ hB8 _ _ _ qA (fun j hj => (hown8.out.lt j hj).1); replace oA := Lib.hid oA; replace qA := Lib.hid qA))
      all_goals go_wp2_with fail
      all_goals go_roundg (l.length - (k + 1))
      case measure => omega
      case rel => exact ⟨k + 1, rfl, by go_num, by omega, by rw [hstep.out, List.map_append]; exact oA.out, ((bl_trans hb.out hB8).alloc (by omega) _).grown qA.out (by simp; omega) (fun j hj => (hown8.out.lt j hj).1)⟩
    · obtain rfl : k = l.length := by omega
      rw [List.take_length] at hown
      go_wp2_with fail
      go_ret2
      exact ⟨_, rfl, StrsAt.own (by rw [show (some (l.map fileS)).getD [] = l.map fileS from rfl, List.length_map]; exact hown), bl_trans hb1 hb⟩
end Go.Proofs.YtjfpepinmbbnbaaDoor
