/-
  Two books, one behind the other: the walk; of chapter 32.
  Conditions: as each theorem states them.
-/
import Derived.Test.YtaginadnaajleaaJn0
import Derived.Test.YtaginadnaajleaaJnR
import Derived.Deep.CutBlock
import Derived.Deep.LoopGhost
namespace Go.Proofs.Ytaginadnaajleaa
open Go.RowKit
set_option linter.unusedVariables false
set_option linter.unusedSimpArgs false
open BM (Cs)
/-- a case as it is told -/
def ParsedAs (c : Cs) (n e : Int) (w : World) (en : Ending) (w' : World) : Prop := ∃ sa sc ia ic fa fc la lc, en = .returned (.tuple #[.agg #[.slice sa c.sed.length sc, .bool c.quiet, .bool c.separate, .bool c.place, .bool c.extended, .slice ia c.inputs.length ic, .slice fa c.files.length fc, .int .i64 c.cap, .int .i64 c.period, .int .i64 c.fuel, .slice la c.lines.length lc], .int .i64 n, .int .i64 e]) ∧ CsAt w' c (.slice sa c.sed.length sc) (.slice ia c.inputs.length ic) (.slice fa c.files.length fc) (.slice la c.lines.length lc) ∧ Below w.heap.size w w'
theorem parse_read (s : List UInt8) (hl : s.length ≤ 100000) {c : Cs} {n e : Int} (h : BM.parseS s = (c, n, e)) (w : World) : Calls Try.prog 6 #[strV s] w (ParsedAs c n e w) := by
  have hp := parse_any s hl w
  rw [h] at hp
  refine hp.mono fun en w' he => ?_
  obtain ⟨vs, vi, vf, vl, fv, g, base, rfl, hC, hg, hb⟩ := he
  have hr := hC.read
  obtain ⟨sa, sc, h1⟩ := own_slice hC.sed
  obtain ⟨ia, ic, h2⟩ := own_slice hC.inp
  obtain ⟨fa, fc, h3⟩ := own_slice hC.fil
  obtain ⟨la, lc, h4⟩ := own_slice hC.lin
  subst h1 h2 h3 h4
  exact ⟨sa, sc, ia, ic, fa, fc, la, lc, rfl, hr, hb⟩
abbrev csL (c : Cs) (vs vi vf vl : Value) : List Value := [vs, .bool c.quiet, .bool c.separate, .bool c.place, .bool c.extended, vi, vf, .int .i64 c.cap, .int .i64 c.period, .int .i64 c.fuel, vl]
theorem SrcAt.below {w w' : World} {v : Value} {m : Nat} {news : List Value} (h : SrcAt w v m news) (hb : Below w.heap.size w w') : SrcAt w' v m news := by
  obtain ⟨a, c, rfl, h0, hc⟩ := h
  refine ⟨a, c, rfl, h0, fun ad e j u hj => ?_⟩
  have h1 := hc ad e j u hj
  have h2 : (ad.add j).block < w.heap.size := by
    rcases Nat.lt_or_ge (ad.add j).block w.heap.size with hl | hl
    · exact hl
    · unfold World.cell? at h1
      simp [Array.getElem?_eq_none hl] at h1
  exact (hb.cell h2).trans h1
theorem cells11 {w : World} {g : Nat} {t : TypeId} {v0 v1 v2 v3 v4 v5 v6 v7 v8 v9 v10 : Value} (h : Blk w g t [v0, v1, v2, v3, v4, v5, v6, v7, v8, v9, v10]) :
    w.cell? ⟨g, 1, none⟩ = some v1 ∧ w.cell? ⟨g, 2, none⟩ = some v2 ∧ w.cell? ⟨g, 3, none⟩ = some v3 ∧ w.cell? ⟨g, 4, none⟩ = some v4 ∧ w.cell? ⟨g, 5, none⟩ = some v5 ∧ w.cell? ⟨g, 7, none⟩ = some v7 ∧ w.cell? ⟨g, 8, none⟩ = some v8 ∧ w.cell? ⟨g, 9, none⟩ = some v9 ∧ w.cell? ⟨g, 10, none⟩ = some v10 :=
  ⟨h.cell 1, h.cell 2, h.cell 3, h.cell 4, h.cell 5, h.cell 7, h.cell 8, h.cell 9, h.cell 10⟩
theorem wrap_add {a b c : Nat} (h : c = a + b) (hc : c ≤ 1000000) : IntKind.i64.wrap ((a : Int) + (b : Int)) = (c : Int) := by rw [IntWalk.i64_in _ (by omega)]; omega
theorem wrap_sub {k l j : Nat} (h : k - l = j) (hl : l ≤ k) (hk : k ≤ 1000000) : IntKind.i64.wrap ((k : Int) - (l : Int)) = (j : Int) := by rw [IntWalk.i64_in _ (by omega)]; omega
theorem wrap_neg {k l : Nat} {d : Int} (h : (k : Int) - l = d) (hl : l ≤ 1000000) (hk : k ≤ 1000000) : IntKind.i64.wrap ((k : Int) - (l : Int)) = d := by rw [IntWalk.i64_in _ (by omega)]; omega
/-- the rows of texts of two books, and of both -/
theorem both_rows {W : World} {v1 v2 v3 : Value} {t1 t2 t3 : List (List UInt8)} (h1 : TxtsAt W v1 t1) (h2 : TxtsAt W v2 t2) (h3 : TxtsAt W v3 t3) (e : t3 = t1 ++ t2) (k : Nat) (hk : k < t3.length) :
    ∃ s c3 p o, v3 = .slice (some ⟨p, o, none⟩) t3.length c3 ∧ W.cell? ⟨p, o + k, none⟩ = some (.string s) ∧
      (k < t1.length → ∃ c1 p1 o1, v1 = .slice (some ⟨p1, o1, none⟩) t1.length c1 ∧ W.cell? ⟨p1, o1 + k, none⟩ = some (.string s)) ∧
      (t1.length ≤ k → ∃ c1 p1 o1, v2 = .slice (some ⟨p1, o1, none⟩) t2.length c1 ∧ W.cell? ⟨p1, o1 + (k - t1.length), none⟩ = some (.string s)) := by
  subst e
  obtain ⟨a1, c1, rfl, _, h1⟩ := h1
  obtain ⟨a2, c2, rfl, _, h2⟩ := h2
  obtain ⟨a3, c3, rfl, _, h3⟩ := h3
  obtain ⟨p, o, rfl, _, hr⟩ := h3 (by omega)
  refine ⟨⟨((t1 ++ t2)[k]).toArray⟩, c3, p, o, rfl, hr k hk, fun hlt => ?_, fun hge => ?_⟩
  · obtain ⟨p1, o1, rfl, _, hr1⟩ := h1 (by omega)
    exact ⟨c1, p1, o1, rfl, by rw [hr1 k hlt, List.getElem_append_left hlt]⟩
  · have hk2 : k - t1.length < t2.length := by simp at hk; omega
    obtain ⟨p1, o1, rfl, _, hr1⟩ := h2 (by omega)
    exact ⟨c2, p1, o1, rfl, by rw [hr1 _ hk2, List.getElem_append_right hge]⟩
abbrev JS (W : World) (g1 g2 g3 : Nat) (a1 a2 a3 b1 b2 b3 : Value) (w' : World) : Prop := Below W.heap.size W w' ∧ w'.cell? ⟨g1, 0, none⟩ = some a1 ∧ w'.cell? ⟨g2, 0, none⟩ = some a2 ∧ w'.cell? ⟨g3, 0, none⟩ = some a3 ∧ w'.cell? ⟨g1, 6, none⟩ = some b1 ∧ w'.cell? ⟨g2, 6, none⟩ = some b2 ∧ w'.cell? ⟨g3, 6, none⟩ = some b3
/-- three books, read one after the other -/
theorem three_books {w w2 w3 w4 : World} {t : TypeId} {c1 c2 c3 : List Value} (b2 : Below w.heap.size w w2) (b3 : Below (w2.alloc (.cells c1.toArray t)).heap.size (w2.alloc (.cells c1.toArray t)) w3)
    (b4 : Below (w3.alloc (.cells c2.toArray t)).heap.size (w3.alloc (.cells c2.toArray t)) w4) :
    Blk (w4.alloc (.cells c3.toArray t)) w2.heap.size t c1 ∧ Blk (w4.alloc (.cells c3.toArray t)) w3.heap.size t c2 ∧ Blk (w4.alloc (.cells c3.toArray t)) w4.heap.size t c3 ∧
    Below w.heap.size w (w4.alloc (.cells c3.toArray t)) ∧ Below w2.heap.size w2 (w4.alloc (.cells c3.toArray t)) ∧ Below w3.heap.size w3 (w4.alloc (.cells c3.toArray t)) ∧ Below w4.heap.size w4 (w4.alloc (.cells c3.toArray t)) := by
  have m4 : Below w4.heap.size w4 (w4.alloc (.cells c3.toArray t)) := bl_alloc (Below.refl _ _) _
  have n3 := bl_trans b4 m4
  have m3 : Below w3.heap.size w3 (w4.alloc (.cells c3.toArray t)) := bl_trans (bl_alloc (Below.refl _ _) _) n3
  have n2 := bl_trans b3 m3
  have m2 : Below w2.heap.size w2 (w4.alloc (.cells c3.toArray t)) := bl_trans (bl_alloc (Below.refl _ _) _) n2
  exact ⟨(Blk.new _ _ _).below n2, (Blk.new _ _ _).below n3, Blk.new _ _ _, bl_trans b2 m2, m2, m3, m4⟩
set_option maxHeartbeats 4000000 in
set_option maxRecDepth 100000 in
theorem bookJoins_list (a b : List UInt8) (hla : a.length ≤ 9223372036854775807) (hlb : b.length ≤ 9223372036854775807) (w : World) : Calls Try.prog 3 #[strV a, strV b] w fun e w' => e = .returned (.bool true) ∧ Below w.heap.size w w' := by
  have haw := Lib.hid (fun W => awake32 W)
  by_cases h1 : 300 < a.length
  · have q1 : decide ((300 : Int) < a.length) = true := by rw [decide_eq_true_eq]; omega
    go_enter Try.func3, Try.ntmps3
    go_wp2_with (go_at_call 5; refine (haw.out _).mono ?_; rintro e w2 ⟨rfl, hb2⟩)
    all_goals go_ret
    all_goals exact ⟨rfl, hb2⟩
  have q1 : decide ((300 : Int) < a.length) = false := by rw [decide_eq_false_iff_not]; omega
  by_cases h2 : 300 < b.length
  · have q2 : decide ((300 : Int) < b.length) = true := by rw [decide_eq_true_eq]; omega
    go_enter Try.func3, Try.ntmps3
    go_wp2_with (go_at_call 5; refine (haw.out _).mono ?_; rintro e w2 ⟨rfl, hb2⟩)
    all_goals go_ret
    all_goals exact ⟨rfl, hb2⟩
  have q2 : decide ((300 : Int) < b.length) = false := by rw [decide_eq_false_iff_not]; omega
  obtain ⟨⟨x, nx, ex⟩, hx⟩ : ∃ R, BM.parseS a = R := ⟨_, rfl⟩
  obtain ⟨⟨y, ny, ey⟩, hy⟩ : ∃ R, BM.parseS b = R := ⟨_, rfl⟩
  have hcx := Lib.hid (fun W => parse_read a (by omega) hx W)
  have hcy := Lib.hid (fun W => parse_read b (by omega) hy W)
  by_cases hex : ex = 0
  case neg =>
    have q3 : (ex != 0) = true := by simpa using hex
    replace hx := Lib.hid hx
    replace hy := Lib.hid hy
    replace hex := Lib.hid hex
    go_enter Try.func3, Try.ntmps3
    go_wp2_with (first
      | (go_at_call 6; first | ((with_reducible refine (hcx.out _).mono ?_); rintro e w2 ⟨sa1, sc1, ia1, ic1, fa1, fc1, la1, lc1, rfl, hu1, hb2⟩; replace hu1 := Lib.hid hu1; replace hb2 := Lib.hid hb2) | ((with_reducible refine (hcy.out _).mono ?_); rintro e w3 ⟨sa2, sc2, ia2, ic2, fa2, fc2, la2, lc2, rfl, hu2, hb3⟩; have hb4 := Lib.hid (bl_trans (bl_alloc hb2.out _) hb3); clear hb3; replace hu2 := Lib.hid hu2))
      | (go_at_call 5; refine (haw.out _).mono ?_; rintro e w4 ⟨rfl, hb5⟩))
    all_goals go_ret
    all_goals exact ⟨rfl, bl_trans (bl_alloc hb4.out _) hb5⟩
  case pos =>
  subst hex
  obtain rfl := parseS_zero hx rfl
  by_cases hey : ey = 0
  case neg =>
    have q3 : (ey != 0) = true := by simpa using hey
    replace hx := Lib.hid hx
    replace hy := Lib.hid hy
    replace hey := Lib.hid hey
    go_enter Try.func3, Try.ntmps3
    go_wp2_with (first
      | (go_at_call 6; first | ((with_reducible refine (hcx.out _).mono ?_); rintro e w2 ⟨sa1, sc1, ia1, ic1, fa1, fc1, la1, lc1, rfl, hu1, hb2⟩; replace hu1 := Lib.hid hu1; replace hb2 := Lib.hid hb2) | ((with_reducible refine (hcy.out _).mono ?_); rintro e w3 ⟨sa2, sc2, ia2, ic2, fa2, fc2, la2, lc2, rfl, hu2, hb3⟩; have hb4 := Lib.hid (bl_trans (bl_alloc hb2.out _) hb3); clear hb3; replace hu2 := Lib.hid hu2))
      | (go_at_call 5; refine (haw.out _).mono ?_; rintro e w4 ⟨rfl, hb5⟩))
    all_goals go_ret
    all_goals exact ⟨rfl, bl_trans (bl_alloc hb4.out _) hb5⟩
  case pos =>
  subst hey
  obtain rfl := parseS_zero hy rfl
  obtain ⟨z, hz, hB⟩ := BM.parse_join a b (by omega) (by omega) hx hy
  have e1 : strV (a ++ 10 :: b) = .string (⟨a.toArray⟩ ++ ⟨#[10]⟩ ++ ⟨b.toArray⟩) := by rw [show a ++ 10 :: b = (a ++ [10]) ++ b by simp]; show Value.string _ = _; rw [show (⟨#[10]⟩ : ByteArray) = ⟨[(10 : UInt8)].toArray⟩ from rfl, ba_add, ba_add]
  have hcz := fun W => parse_read (a ++ 10 :: b) (by simp; omega) hz W
  rw [e1] at hcz
  replace hcz := Lib.hid hcz
  have k1 : ¬ (9223372036854775807 : Nat) < a.length + 1 := by omega
  have k2 : ¬ (9223372036854775807 : Nat) < a.length + 1 + b.length := by omega
  clear e1
  replace hx := Lib.hid hx
  replace hy := Lib.hid hy
  replace hz := Lib.hid hz
  replace hB := Lib.hid hB
  go_enter Try.func3, Try.ntmps3
  go_upto_region 8 with (first
      | (go_at_call 6; first | ((with_reducible refine (hcx.out _).mono ?_); rintro e w2 ⟨sa1, sc1, ia1, ic1, fa1, fc1, la1, lc1, rfl, hu1, hb2⟩; replace hu1 := Lib.hid hu1; replace hb2 := Lib.hid hb2) | ((with_reducible refine (hcy.out _).mono ?_); rintro e w3 ⟨sa2, sc2, ia2, ic2, fa2, fc2, la2, lc2, rfl, hu2, hb3⟩; replace hb3 := Lib.hid hb3; replace hu2 := Lib.hid hu2) | ((with_reducible refine (hcz.out _).mono ?_); rintro e w4 ⟨sa3, sc3, ia3, ic3, fa3, fc3, la3, lc3, rfl, hu3, hb4⟩; replace hb4 := Lib.hid hb4; replace hu3 := Lib.hid hu3)))
  obtain ⟨m1, m2, m3, m4, m5, m6, m7⟩ := three_books (c3 := csL z (.slice sa3 z.sed.length sc3) (.slice ia3 z.inputs.length ic3) (.slice fa3 z.files.length fc3) (.slice la3 z.lines.length lc3)) hb2.out hb3.out hb4.out
  have n1 := hu1.out.below m5
  have n2 := hu2.out.below m6
  have n3 := hu3.out.below m7
  have hWd : ∃ W, w4.alloc (.cells (csL z (.slice sa3 z.sed.length sc3) (.slice ia3 z.inputs.length ic3) (.slice fa3 z.files.length fc3) (.slice la3 z.lines.length lc3)).toArray 29) = W := ⟨_, rfl⟩
  obtain ⟨W, hW⟩ := hWd
  rw [hW] at m1 m2 m3 m4 n1 n2 n3
  unfold csL at hW
  rw [hW]
  clear hW m5 m6 m7 hb2 hb3 hb4 hu1 hu2 hu3
  generalize w2.heap.size = g1 at *
  generalize w3.heap.size = g2 at *
  generalize w4.heap.size = g3 at *
  clear hcx hcy hcz k1 k2
  obtain ⟨i0, hi, hz0, hz1, hz2⟩ := info_parts infoByteB
  obtain ⟨i1, hj, hy0, hy1, hy2⟩ := info_parts infoFile
  obtain ⟨sx, fx⟩ := parseS_grown (by omega) hx.out
  obtain ⟨sy, fy⟩ := parseS_grown (by omega) hy.out
  obtain ⟨sz, fz⟩ := parseS_grown (by simp; omega) hz.out
  obtain ⟨fv1, v1, r1⟩ := fil_src n1.fil
  obtain ⟨fv2, v2, r2⟩ := fil_src n2.fil
  have hC8 := Lib.hid (fun w' (hb : Below W.heap.size W w') => (copy_any _ x.sed (by have := sx.sed; omega) w' (n1.sed.below hb)).mono (R' := fun e w2 => ∃ v, e = .returned v ∧ w2.ownsRow W.heap.size 5 1 v x.sed.length (Lib.byteCells x.sed) ∧ Below W.heap.size W w2) (fun e w2 he => by
    obtain ⟨v, rfl, ho, hb2⟩ := he
    exact ⟨v, rfl, own_base ho hb.size, bl_trans hb hb2⟩))
  have hC7 := Lib.hid (fun w' v' (hb : Below W.heap.size W w') (ho : w'.ownsRow W.heap.size 5 1 v' (x.sed.length + y.sed.length) (Lib.byteCells x.sed ++ Lib.byteCells y.sed)) => show Calls Try.prog 7 #[.slice sa3 z.sed.length sc3, v'] w' fun e w2 => e = .returned (.bool true) ∧ Below W.heap.size W w2 by
    have e1 : z.sed = x.sed ++ y.sed := hB.out.sed
    have ho2 : w'.ownsRow W.heap.size 5 1 v' z.sed.length (Lib.byteCells z.sed) := by rw [e1, byteCells_app, List.length_append]; exact ho
    obtain ⟨a', c', rfl, _, hB'⟩ := bys_own ho2
    obtain ⟨a3, c3, q3, _, hB3⟩ := n3.sed.below hb
    injection q3 with q3 q4 q5
    subst q3 q5
    refine (same_bytes _ _ _ _ z.sed z.sed w' (by have := sz.sed; omega) (by have := sz.sed; omega) hB3 hB').mono fun e w2 he => ?_
    obtain ⟨rfl, m, rfl⟩ := he
    exact ⟨by simp, bl_drewN hb m⟩)
  have hC9 := Lib.hid (fun w' v' (hb : Below W.heap.size W w') (ho : w'.ownsRow W.heap.size 53 2 v' (x.files.length + y.files.length) (fileCells fv1 ++ fileCells fv2)) => show Calls Try.prog 9 #[.slice fa3 z.files.length fc3, v'] w' fun e w2 => e = .returned (.bool true) ∧ Below W.heap.size W w2 by
    have e1 : z.files = x.files ++ y.files := hB.out.files
    have e2 : fileCells fv1 ++ fileCells fv2 = fileCells (fv1 ++ fv2) := by unfold fileCells; rw [List.flatMap_append]
    have hv : FvAt w' (fv1 ++ fv2) z.files := by rw [e1]; exact (v1.append v2).below hb
    have ho2 : w'.ownsRow W.heap.size 53 2 v' z.files.length (fileCells (fv1 ++ fv2)) := by rw [e1, List.length_append, ← e2]; exact ho
    have hlz := sz.files
    refine (files_any _ _ z.files z.files w' hlz hlz (fun p hp => by have := fz p hp; omega) (fun p hp => by have := fz p hp; omega) (n3.fil.below hb) (fil_own ho2 hv)).mono fun e w2 he => ?_
    obtain ⟨rfl, m, rfl⟩ := he
    exact ⟨by simp, bl_drewN hb m⟩)
  have hown0 := Lib.hid (fun w' (hb : Below W.heap.size W w') => World.ownsRow_made (base := W.heap.size) (e := 53) (size := 2) w' #[] 0 hb.size (by decide) rfl)
  have hS := Lib.hid (fun w' (h : Below W.heap.size W w') => show JS W g1 g2 g3 _ _ _ _ _ _ w' from ⟨h, (h.cell (p := ⟨g1, 0, none⟩) m1.lt).trans (m1.cell 0), (h.cell (p := ⟨g2, 0, none⟩) m2.lt).trans (m2.cell 0), (h.cell (p := ⟨g3, 0, none⟩) m3.lt).trans (m3.cell 0), (h.cell (p := ⟨g1, 6, none⟩) m1.lt).trans (m1.cell 6), (h.cell (p := ⟨g2, 6, none⟩) m2.lt).trans (m2.cell 6), (h.cell (p := ⟨g3, 6, none⟩) m3.lt).trans (m3.cell 6)⟩)
  have hbl := Lib.hid (And.intro sz.lines sz.inputs)
  have hsx := sx.sed
  have hsy := sy.sed
  have hfx := sx.files
  have hfy := sy.files
  have hsr2 := Lib.hid (fun w' (hb : Below W.heap.size W w') => (src_bytes (n2.sed)).below hb)
  have hsr3 := Lib.hid (fun w' (hb : Below W.heap.size W w') => r1.below hb)
  have hsr4 := Lib.hid (fun w' (hb : Below W.heap.size W w') => r2.below hb)
  have u1 := Lib.hid (show (fileCells fv1).length = x.files.length * 2 by rw [fileCells_len, v1.len])
  have u2 := Lib.hid (show (fileCells fv2).length = y.files.length * 2 by rw [fileCells_len, v2.len])
  have u3 := Lib.hid v1.one
  have u4 := Lib.hid v2.one
  have hb0 : Below W.heap.size W W.drew := bl_drew (Below.refl _ _)
  have hs0 := hS.out _ hb0
  replace m1 := Lib.hid m1
  replace m2 := Lib.hid m2
  replace m3 := Lib.hid m3
  replace n1 := Lib.hid n1
  replace n2 := Lib.hid n2
  replace n3 := Lib.hid n3
  replace m4 := Lib.hid m4
  clear v1 v2 r1 r2 sx sy sz fx fy fz
  go_cut [80] from 17 to 79 (fun s80 wx => s80 = .bool false ∧ Below W.heap.size W wx)
  case first =>
    go_region_held3 (fun w' => Below W.heap.size W w' ∧ w'.cell? ⟨g1, 0, none⟩ = some (.slice sa1 x.sed.length sc1) ∧ w'.cell? ⟨g2, 0, none⟩ = some (.slice sa2 y.sed.length sc2) ∧ w'.cell? ⟨g3, 0, none⟩ = some (.slice sa3 z.sed.length sc3) ∧ w'.cell? ⟨g1, 6, none⟩ = some (.slice fa1 x.files.length fc1) ∧ w'.cell? ⟨g2, 6, none⟩ = some (.slice fa2 y.files.length fc2) ∧ w'.cell? ⟨g3, 6, none⟩ = some (.slice fa3 z.files.length fc3))
      (first | with_reducible exact hs0 | with_reducible exact hs5 | with_reducible exact hs6 | with_reducible exact hs7 | with_reducible exact hs8 | with_reducible exact hs9 | with_reducible exact hs10 | exact hS.out _ (bl_alloc hb7 _))
      (first
      | (go_at_call 8; refine (hC8.out _ hb0).mono ?_; rintro e w5 ⟨v5, rfl, ho5, hb5⟩; have hs5 := hS.out _ hb5)
      | (go_at_call 7; refine (hC7.out _ _ hb6 ho6).mono ?_; rintro e w7 ⟨rfl, hb7⟩; have hs7 := hS.out _ hb7)
      | (go_at_call 9; refine (hC9.out _ _ hb9 ho9).mono ?_; rintro e w10 ⟨rfl, hb10⟩; have hs10 := hS.out _ hb10)
      | (rw [if_pos (by rfl)]; refine wp_append_src _ (.tmp 61) (.tmp 63) 23 (by rfl) W.heap.size 5 i0 _ 1 1 Try.underlying23 hi hz0 hz1 hz2 (by rfl) (Nat.zero_lt_one) _ _ _ (by rfl) ho5 _ y.sed.length _ (by rfl) (hsr2.out _ hb5) (byteCells_len _) (bytes_one _) (by unfold maxLen; omega) (by omega) hb5.size ?_; intro v6 w6 ho6 hg6; have hb6 := hb5.grown hg6 hb5.size (fun j hj => (ho5.lt j hj).1); have hs6 := hS.out _ hb6)
      | (rw [if_pos (by rfl)]; refine wp_append_src _ (.tmp 71) (.tmp 73) 27 (by rfl) W.heap.size 53 i1 _ 2 40 Try.underlying27 hj hy0 hy1 hy2 (by rfl) (Nat.zero_lt_succ 1) _ _ _ (by rfl) (hown0.out _ hb7) _ x.files.length _ (by rfl) (hsr3.out _ (bl_alloc hb7 _)) u1.out u3.out (by unfold maxLen; omega) (by omega) (bl_alloc hb7 _).size ?_; intro v8 w8 ho8 hg8; rw [Nat.zero_add, List.nil_append] at ho8; have hb8 := (bl_alloc hb7 _).grown hg8 (bl_alloc hb7 _).size (fun j hj => ((hown0.out _ hb7).lt j hj).1); have hs8 := hS.out _ hb8)
      | (rw [if_pos (by rfl)]; refine wp_append_src _ (.tmp 74) (.tmp 76) 27 (by rfl) W.heap.size 53 i1 _ 2 40 Try.underlying27 hj hy0 hy1 hy2 (by rfl) (Nat.zero_lt_succ 1) _ _ _ (by rfl) ho8 _ y.files.length _ (by rfl) (hsr4.out _ hb8) u2.out u4.out (by unfold maxLen; omega) (by omega) hb8.size ?_; intro v9 w9 ho9 hg9; have hb9 := hb8.grown hg9 hb8.size (fun j hj => (ho8.lt j hj).1); have hs9 := hS.out _ hb9))
    go_wp2_with fail
    go_meet
    exact ⟨rfl, hb10⟩
  case rest =>
  obtain ⟨rfl, hb10⟩ := hcut
  obtain ⟨w10, hw10⟩ : ∃ w10, w10 = wc := ⟨_, rfl⟩
  subst hw10
  have B1 := m1.out.below hb10
  have B2 := m2.out.below hb10
  have B3 := m3.out.below hb10
  have N1 := n1.out.below hb10
  have N2 := n2.out.below hb10
  have N3 := n3.out.below hb10
  have M4 := Lib.hid (bl_trans m4.out hb10)
  clear hb10 hs0 hb0 m1 m2 m3 n1 n2 n3 m4 u1 u2 u3 u4 hsr2 hsr3 hsr4 hS hown0 hC7 hC8 hC9 hi hj hz0 hz1 hz2 hy0 hy1 hy2
  obtain ⟨d1, d2, d3, d4, d5, d7, d8, d9, d10⟩ := cells11 B1
  obtain ⟨e1, e2, e3, e4, e5, e7, e8, e9, e10⟩ := cells11 B2
  obtain ⟨f1, f2, f3, f4, f5, f7, f8, f9, f10⟩ := cells11 B3
  clear B1 B2 B3
  have hT1 := Lib.hid (both_rows N1.lin N2.lin N3.lin hB.out.lines)
  have hT2 := Lib.hid (both_rows N1.inp N2.inp N3.inp hB.out.inputs)
  have L1 : z.lines.length = x.lines.length + y.lines.length := by rw [hB.out.lines, List.length_append]
  have L2 : z.inputs.length = x.inputs.length + y.inputs.length := by rw [hB.out.inputs, List.length_append]
  have G1 : z.quiet = (x.quiet || y.quiet) := hB.out.quiet
  have G2 : z.separate = (x.separate || y.separate) := hB.out.separate
  have G3 : z.place = (x.place || y.place) := hB.out.place
  have G4 : z.extended = (x.extended || y.extended) := hB.out.extended
  have G5 := Lib.hid (fun w => number_any z.cap x.cap y.cap 100 w hB.out.cap)
  have G6 := Lib.hid (fun w => number_any z.period x.period y.period 10 w hB.out.period)
  have G7 := Lib.hid (fun w => number_any z.fuel x.fuel y.fuel 10000 w hB.out.fuel)
  clear N1 N2 N3 hsx hsy hfx hfy
  rw [G1] at f1
  rw [G2] at f2
  rw [G3] at f3
  rw [G4] at f4
  clear G1 G2 G3 G4
  obtain ⟨lx, hlx⟩ : ∃ n, x.lines.length = n := ⟨_, rfl⟩
  obtain ⟨ly, hly⟩ : ∃ n, y.lines.length = n := ⟨_, rfl⟩
  obtain ⟨lz, hlz⟩ : ∃ n, z.lines.length = n := ⟨_, rfl⟩
  obtain ⟨ix, hix⟩ : ∃ n, x.inputs.length = n := ⟨_, rfl⟩
  obtain ⟨iy, hiy⟩ : ∃ n, y.inputs.length = n := ⟨_, rfl⟩
  obtain ⟨iz, hiz⟩ : ∃ n, z.inputs.length = n := ⟨_, rfl⟩
  rw [hlx] at d10 hT1 L1
  rw [hly] at e10 hT1 L1
  rw [hlz] at f10 hT1 L1
  rw [hix] at d5 hT2 L2
  rw [hiy] at e5 hT2 L2
  rw [hiz] at f5 hT2 L2
  have b1 : lz ≤ 1000000 := by rw [← hlz]; exact hbl.out.1
  have b2 : iz ≤ 1000000 := by rw [← hiz]; exact hbl.out.2
  clear hlx hly hlz hix hiy hiz
  have b3 : lx ≤ 1000000 := by omega
  have b4 : ix ≤ 1000000 := by omega
  have hw1 := wrap_add L1 b1
  have hw2 := wrap_add L2 b2
  have qz1 : ((lz : Int) != (lz : Int)) = false := by simp
  have qz2 : ((iz : Int) != (iz : Int)) = false := by simp
  replace L1 := Lib.hid L1
  replace L2 := Lib.hid L2
  go_wp2_with fail
  clear hw1 hw2 qz1 qz2
  go_loopg [14] lz (fun gh i wr => ∃ k : Nat, gh = lz - k ∧ i = .int .i64 (k : Int) ∧ k ≤ lz ∧ ∃ m, Hid (wr = w10.drewN m))
  case atStart => exact ⟨0, rfl, rfl, by omega, 0, Lib.hid rfl⟩
  case round =>
    obtain ⟨k, rfl, rfl, hk, m, hm⟩ := hrel
    have hm' := hm.out
    subst hm'
    clear hm
    rcases Nat.lt_or_ge k lz with hlt | hge
    · obtain ⟨s, c3, p, o, hv3, hc3, hA, hBb⟩ := hT1.out k hlt
      injection hv3 with hv3 _ hv4
      subst hv3 hv4
      have qs : (s != s) = false := by rw [bne, ba_refl]; rfl
      have k0 : (0 : Int) ≤ (k : Int) := by omega
      have k1 : (k : Int) < (lz : Int) := by omega
      have k2 : decide ((k : Int) < (lz : Int)) = true := by rw [decide_eq_true_eq]; omega
      replace hT1 := Lib.hid hT1
      rcases Nat.lt_or_ge k lx with hlx | hgx
      · obtain ⟨c1, p1, o1, hv1, hc1⟩ := hA hlx
        injection hv1 with hv1 _ hv5
        subst hv1 hv5
        clear hA hBb
        have k3 : (k : Int) < (lx : Int) := by omega
        have k4 : decide ((k : Int) < (lx : Int)) = true := by rw [decide_eq_true_eq]; omega
        have k5 : decide ((lx : Int) ≤ (k : Int)) = false := by rw [decide_eq_false_iff_not]; omega
        have kn : decide (lx ≤ k) = false := by rw [decide_eq_false_iff_not]; omega
        have kn2 : ¬ lx ≤ k := by omega
        have k7 : decide ((k : Int) - (lx : Int) < 0) = true := by rw [decide_eq_true_eq]; omega
        have k8 : decide (0 ≤ (k : Int) - (lx : Int)) = false := by rw [decide_eq_false_iff_not]; omega
        have k6 := wrap_neg (k := k) (l := lx) rfl b3 (Nat.le_of_lt (Nat.lt_of_lt_of_le hlt b1))
        go_wp2_with (go_quiet (fail))
        all_goals go_roundg (lz - (k + 1))
        case measure => clear k6; omega
        case rel => exact ⟨k + 1, rfl, (by clear k6; go_num), (by clear k6; omega), _, Lib.hid rfl⟩
      · obtain ⟨c1, p1, o1, hv1, hc1⟩ := hBb hgx
        injection hv1 with hv1 _ hv5
        subst hv1 hv5
        clear hA hBb
        obtain ⟨j, hj⟩ : ∃ j, k - lx = j := ⟨_, rfl⟩
        rw [hj] at hc1
        have k3 : (j : Int) < (ly : Int) := by have := L1.out; omega
        have k4 : decide ((k : Int) < (lx : Int)) = false := by rw [decide_eq_false_iff_not]; omega
        have k5 : decide ((lx : Int) ≤ (k : Int)) = true := by rw [decide_eq_true_eq]; omega
        have kn : decide (k < lx) = false := by rw [decide_eq_false_iff_not]; omega
        have kn2 : ¬ k < lx := by omega
        have k7 : decide ((j : Int) < 0) = false := by rw [decide_eq_false_iff_not]; omega
        have k8 : decide (0 ≤ (j : Int)) = true := by rw [decide_eq_true_eq]; omega
        have k9 : (0 : Int) ≤ (j : Int) := by omega
        have k6 := wrap_sub hj hgx (Nat.le_of_lt (Nat.lt_of_lt_of_le hlt b1))
        go_wp2_with (go_quiet (fail))
        all_goals go_roundg (lz - (k + 1))
        case measure => clear k6; omega
        case rel => exact ⟨k + 1, rfl, (by clear k6; go_num), (by clear k6; omega), _, Lib.hid rfl⟩
    · obtain rfl : k = lz := by omega
      have k2 : decide ((k : Int) < (k : Int)) = false := by rw [decide_eq_false_iff_not]; omega
      go_wp2_with fail
      go_loopg [15, 16] iz (fun gh i kk wr => ∃ k : Nat, gh = iz - k ∧ i = .int .i64 (k : Int) ∧ k ≤ iz ∧ ∃ m, Hid (wr = w10.drewN m))
      case atStart => exact ⟨0, rfl, rfl, by omega, _, Lib.hid rfl⟩
      case round =>
      obtain ⟨k, rfl, rfl, hk, m, hm⟩ := hrel
      have hm' := hm.out
      subst hm'
      clear hm
      rcases Nat.lt_or_ge k iz with hlt | hge
      · obtain ⟨s, c3, p, o, hv3, hc3, hA, hBb⟩ := hT2.out k hlt
        injection hv3 with hv3 _ hv4
        subst hv3 hv4
        have qs : (s != s) = false := by rw [bne, ba_refl]; rfl
        have k0 : (0 : Int) ≤ (k : Int) := by omega
        have k1 : (k : Int) < (iz : Int) := by omega
        have k2 : decide ((k : Int) < (iz : Int)) = true := by rw [decide_eq_true_eq]; omega
        replace hT2 := Lib.hid hT2
        rcases Nat.lt_or_ge k ix with hlx | hgx
        · obtain ⟨c1, p1, o1, hv1, hc1⟩ := hA hlx
          injection hv1 with hv1 _ hv5
          subst hv1 hv5
          clear hA hBb
          have k3 : (k : Int) < (ix : Int) := by omega
          have k4 : decide ((k : Int) < (ix : Int)) = true := by rw [decide_eq_true_eq]; omega
          have k5 : decide ((ix : Int) ≤ (k : Int)) = false := by rw [decide_eq_false_iff_not]; omega
          obtain ⟨d, hd, hd0⟩ : ∃ d : Int, (k : Int) - ix = d ∧ d < 0 := ⟨_, rfl, by omega⟩
          have k7 : decide (d < 0) = true := by rw [decide_eq_true_eq]; omega
          have k8 : decide (0 ≤ d) = false := by rw [decide_eq_false_iff_not]; omega
          replace hd := Lib.hid hd
          have k6 := wrap_neg hd.out b4 (Nat.le_of_lt (Nat.lt_of_lt_of_le hlt b2))
          go_wp2_with (go_quiet (fail))
          all_goals go_roundg (iz - (k + 1))
          case measure => clear k6; omega
          case rel => exact ⟨k + 1, rfl, (by clear k6; go_num), (by clear k6; omega), _, Lib.hid rfl⟩
        · obtain ⟨c1, p1, o1, hv1, hc1⟩ := hBb hgx
          injection hv1 with hv1 _ hv5
          subst hv1 hv5
          clear hA hBb
          obtain ⟨j, hj⟩ : ∃ j, k - ix = j := ⟨_, rfl⟩
          rw [hj] at hc1
          have k3 : (j : Int) < (iy : Int) := by have := L2.out; omega
          have k4 : decide ((k : Int) < (ix : Int)) = false := by rw [decide_eq_false_iff_not]; omega
          have k5 : decide ((ix : Int) ≤ (k : Int)) = true := by rw [decide_eq_true_eq]; omega
          have k7 : decide ((j : Int) < 0) = false := by rw [decide_eq_false_iff_not]; omega
          have k8 : decide (0 ≤ (j : Int)) = true := by rw [decide_eq_true_eq]; omega
          have k9 : (0 : Int) ≤ (j : Int) := by omega
          have k6 := wrap_sub hj hgx (Nat.le_of_lt (Nat.lt_of_lt_of_le hlt b2))
          go_wp2_with (go_quiet (fail))
          all_goals go_roundg (iz - (k + 1))
          case measure => clear k6; omega
          case rel => exact ⟨k + 1, rfl, (by clear k6; go_num), (by clear k6; omega), _, Lib.hid rfl⟩
      · obtain rfl : k = iz := by omega
        have k2 : decide ((k : Int) < (k : Int)) = false := by rw [decide_eq_false_iff_not]; omega
        go_upto_region 23 with fail
        clear d5 e5 f5 d10 e10 f10 hT1 hT2
        refine jn_bools g1 g2 g3 _ _ _ _ _ _ _ _ (w10.drewN m) d1 d2 d3 d4 e1 e2 e3 e4 f1 f2 f3 f4 _ ?_
        clear d1 d2 d3 d4 e1 e2 e3 e4 f1 f2 f3 f4
        intros
        go_wp2_with (first
          | (go_at_call 10; first | ((with_reducible refine (G5.out _).mono ?_); rintro e w2 ⟨rfl, rfl⟩) | ((with_reducible refine (G6.out _).mono ?_); rintro e w2 ⟨rfl, rfl⟩) | ((with_reducible refine (G7.out _).mono ?_); rintro e w2 ⟨rfl, rfl⟩))
          | (go_at_call 5; refine (haw.out _).mono ?_; rintro e w4 ⟨rfl, hb5⟩))
        all_goals go_ret
        all_goals exact ⟨rfl, bl_trans (bl_drewN M4.out _) hb5⟩
theorem str_eta (s : ByteArray) : strV s.data.toList = .string s := by
  show Value.string ⟨s.data.toList.toArray⟩ = _
  rw [Array.toArray_toList]
theorem bookJoins_walk (w : World) (a : ByteArray) (ha : a.size ≤ maxLen) (b : ByteArray) (hb : b.size ≤ maxLen) : Calls Try.prog 3 #[.string a, .string b] w fun e w' => e = .returned (.bool true) ∧ Below w.heap.size w w' := by
  rw [← str_eta a, ← str_eta b]
  unfold maxLen at ha hb
  exact bookJoins_list _ _ (by rw [size_list]; omega) (by rw [size_list]; omega) w
end Go.Proofs.Ytaginadnaajleaa
