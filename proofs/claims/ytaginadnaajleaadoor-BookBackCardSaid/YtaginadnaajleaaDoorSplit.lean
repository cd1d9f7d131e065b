/-
  lines.Split; of chapter 02.
  Conditions: as each theorem states them.
-/
import Derived.Test.YtaginadnaajleaaDoorLCut
namespace Go.Proofs.YtaginadnaajleaaDoor
open Go.RowKit
set_option linter.unusedVariables false
set_option linter.unusedSimpArgs false
theorem own_bw {w w' : World} {base e size k : Nat} {v : Value} {xs : List Value} (h : w.ownsRow base e size v k xs) (hb : Below w.heap.size w w') : w'.ownsRow base e size v k xs := by
  obtain ⟨h1, h2⟩ := h
  refine ⟨h1, ?_⟩
  rcases h2 with h2 | ⟨g, cap, cur, e1, hg, hh, rest⟩
  · exact .inl h2
  · exact .inr ⟨g, cap, cur, e1, hg, (hb.block g (Array.getElem?_eq_some_iff.1 hh).1).trans hh, rest⟩
theorem own_type {w : World} {b1 b2 e1 e2 s1 s2 k1 k2 : Nat} {v1 v2 : Value} {xs ys : List Value} (h1 : w.ownsRow b1 e1 s1 v1 k1 xs) (h2 : w.ownsRow b2 e2 s2 v2 k2 ys) (he : e1 ≠ e2) : v1.ownBlock = none ∨ v1.ownBlock ≠ v2.ownBlock := by
  rcases h1.2 with ⟨rfl, _⟩ | ⟨g, cap, cur, rfl, hg, hh, _⟩
  · exact .inl rfl
  · rcases h2.2 with ⟨rfl, _⟩ | ⟨g', cap', cur', rfl, hg', hh', _⟩
    · exact .inr (by simp [Value.ownBlock])
    · refine .inr (fun e => ?_)
      have e' : g = g' := by simpa [Value.ownBlock] using e
      subst e'
      rw [hh] at hh'
      injection hh' with hh'
      injection hh' with _ h3
      exact he h3
/-- lines in a row of memory that the call has made -/
def LineRow (w : World) (base : Nat) (v : Value) (ls : List (List UInt8)) : Prop := ∃ vs : List (Value × Bool), vs.length = ls.length ∧ w.ownsRow base 43 2 v ls.length (vs.flatMap fun p => [p.1, .bool p.2]) ∧ ∀ i (h : i < ls.length) (h' : i < vs.length), w.ownsRow base 5 1 vs[i].1 ls[i].length (Lib.byteCells ls[i])
theorem LineRow.bw {w w' : World} {base : Nat} {v : Value} {ls : List (List UInt8)} (h : LineRow w base v ls) (hb : Below w.heap.size w w') : LineRow w' base v ls := by
  obtain ⟨vs, h1, h2, h3⟩ := h
  exact ⟨vs, h1, own_bw h2 hb, fun i hi hi' => own_bw (h3 i hi hi') hb⟩
theorem LineRow.nil (w : World) (base : Nat) : LineRow w base (.slice none 0 0) [] := ⟨[], rfl, World.ownsRow_nil _ _ _ _, fun i h => by simp at h⟩
theorem line_ne : (5 : Nat) ≠ 43 := by decide
theorem LineRow.snoc {w w' : World} {base : Nat} {v v' va : Value} {ls : List (List UInt8)} {L : List UInt8} {nl : Bool} {vs : List (Value × Bool)} {o : Obj} (h1 : vs.length = ls.length) (h2 : w.ownsRow base 43 2 v ls.length (vs.flatMap fun p => [p.1, .bool p.2]))
    (h3 : ∀ i (h : i < ls.length) (h' : i < vs.length), w.ownsRow base 5 1 vs[i].1 ls[i].length (Lib.byteCells ls[i])) (hL : w.ownsRow base 5 1 va L.length (Lib.byteCells L))
    (hg : (w.alloc o).grownBy w' v.ownBlock) (ho : w'.ownsRow base 43 2 v' (ls.length + 1) ((vs.flatMap fun p => [p.1, .bool p.2]) ++ [va, .bool nl])) : LineRow w' base v' (ls ++ [L]) := by
  refine ⟨vs ++ [(va, nl)], by simp [h1], ?_, fun i hi hi' => ?_⟩
  · rw [List.length_append, List.flatMap_append]; simpa using ho
  · have kp : ∀ {u : Value} {n : Nat} {ys : List Value}, w.ownsRow base 5 1 u n ys → w'.ownsRow base 5 1 u n ys := fun hu => (hu.alloc o).kept hg (own_type hu h2 line_ne)
    by_cases hlt : i < ls.length
    · rw [List.getElem_append_left (by omega), List.getElem_append_left hlt]
      exact kp (h3 i hlt (by omega))
    · have hi0 : i = ls.length := by simp at hi; omega
      subst hi0
      rw [List.getElem_append_right (by omega), List.getElem_append_right (by omega)]
      simp only [h1, Nat.sub_self, List.getElem_cons_zero]
      exact kp hL
theorem lines_next {xs : List UInt8} {a : Nat} (ha : a < xs.length) : BM.linesS (xs.drop a) = (xs.drop a).takeWhile n10 :: BM.linesS (xs.drop (if ((xs.drop a).takeWhile n10).length < (xs.drop a).length then a + ((xs.drop a).takeWhile n10).length + 1 else a + (xs.drop a).length)) := by
  rw [lines_step (xs.drop a) (by intro e; have := congrArg List.length e; simp at this; omega)]
  congr 2
  have hle := nl_le (xs.drop a)
  rw [List.drop_drop]
  split
  · congr 1
  · rw [List.drop_eq_nil_of_le (by rw [List.length_drop] at *; omega), List.drop_eq_nil_of_le (by rw [List.length_drop] at *; omega)]
/-- what Cut answers at whatever place -/
def CutU (xs : List UInt8) (a : Nat) (w : World) (e : Ending) (w' : World) : Prop := ∃ (va : Option Addr) (vn vc : Nat) (nl ok : Bool) (a' : Nat) (L : List UInt8), e = .returned (.tuple #[.agg #[.slice va vn vc, .bool nl], .int .i64 (a' : Int), .bool ok]) ∧ w'.ownsRow w.heap.size 5 1 (.slice va vn vc) L.length (Lib.byteCells L) ∧ Below w.heap.size w w' ∧
  ((ok = true ∧ BM.linesS (xs.drop a) = L :: BM.linesS (xs.drop a') ∧ a < a' ∧ a' ≤ xs.length) ∨ (ok = false ∧ a' = 0 ∧ BM.linesS (xs.drop a) = []))
theorem cutu_any (p o c : Nat) (xs : List UInt8) (a : Nat) (ha : a ≤ xs.length) (hl : xs.length ≤ 100000) (hcap : xs.length ≤ c) (w : World) (hp : p < w.heap.size) (hr : ByteRow w p o xs) :
    Calls Tryd.prog 50 #[.slice (some ⟨p, o, none⟩) xs.length c, .int .i64 (a : Int)] w (CutU xs a w) := by
  by_cases h : a < xs.length
  · refine (lcut_any p o c xs a h hl hcap w hp hr).mono fun e w' he => ?_
    obtain ⟨v, rfl, ho, hb⟩ := he
    obtain ⟨va, vc, rfl⟩ := own_slice ho
    refine ⟨va, _, vc, _, true, _, _, rfl, ho, hb, .inl ⟨rfl, lines_next h, ?_, ?_⟩⟩
    · have := nl_le (xs.drop a)
      rw [List.length_drop] at *
      split <;> omega
    · have := nl_le (xs.drop a)
      rw [List.length_drop] at *
      split <;> omega
  · refine (lcut_end xs.length (some ⟨p, o, none⟩) c a (by omega) w).mono fun e w' he => ?_
    obtain ⟨rfl, hb⟩ := he
    exact ⟨none, 0, 0, false, false, 0, [], rfl, World.ownsRow_nil _ _ _ _, hb, .inr ⟨rfl, rfl, by rw [List.drop_eq_nil_of_le (by omega)]; rfl⟩⟩
/-- the state of Split's loop -/
def SpL (xs : List UInt8) (base : Nat) (w0 : World) (gh : Nat) (v3 v4 v5 v6 : Value) (wr : World) : Prop :=
  ∃ (done : List (List UInt8)) (g a vn vc : Nat) (va : Option Addr) (nl ok : Bool) (L : List UInt8), v4 = .pointer (some ⟨g, 0, none⟩) ∧ v5 = .int .i64 (a : Int) ∧ v6 = .bool ok ∧ LineRow wr base v3 done ∧ Below base w0 wr ∧ base ≤ wr.heap.size ∧ base ≤ g ∧ v3.ownBlock ≠ some g ∧
    Blk wr g 43 [.slice va vn vc, .bool nl] ∧ wr.ownsRow base 5 1 (.slice va vn vc) L.length (Lib.byteCells L) ∧
    ((ok = true ∧ BM.linesS xs = done ++ L :: BM.linesS (xs.drop a) ∧ a ≤ xs.length ∧ done.length < a ∧ gh = xs.length - a + 1) ∨ (ok = false ∧ BM.linesS xs = done ∧ gh = 0))
theorem cells_new (w : World) (g : Nat) (hg : g = w.heap.size) (e : TypeId) (l : List Value) : ∀ j u, l[j]? = some u → (w.alloc (.cells l.toArray e)).cell? ((⟨g, 0, none⟩ : Addr).add j) = some u := fun j u h => by
  subst hg
  have e1 : (⟨w.heap.size, 0, none⟩ : Addr).add j = ⟨w.heap.size, j, none⟩ := by unfold Addr.add; by_cases hj : j = 0 <;> simp [hj]
  rw [e1]
  exact ((Blk.new w e l).cell j).trans h
theorem infoLine : (Tryd.prog.info? 43).map (fun i => (i.zero, i.size, i.bytes)) = some (some (.agg #[.slice none 0 0, .bool false]), 2, 32) := by kernel_rfl
set_option maxHeartbeats 4000000 in
set_option maxRecDepth 100000 in
theorem split_any (p o c : Nat) (xs : List UInt8) (hl : xs.length ≤ 100000) (hcap : xs.length ≤ c) (w : World) (hp : p < w.heap.size) (hr : ByteRow w p o xs) :
    Calls Tryd.prog 20 #[.slice (some ⟨p, o, none⟩) xs.length c] w fun e w' => ∃ v, e = .returned v ∧ LineRow w' w.heap.size v (BM.linesS xs) ∧ Below w.heap.size w w' := by
  obtain ⟨i0, hi, hz0, hz1, hz2⟩ := info_parts infoLine
  have hcu := Lib.hid (fun (a : Nat) (ha : a ≤ xs.length) (W : World) (hW : Below w.heap.size w W) => cutu_any p o c xs a ha hl hcap W (Nat.lt_of_lt_of_le hp hW.size) (fun i hi => (hW.cell (p := ⟨p, o + i, none⟩) hp).trans (hr i hi)))
  clear hr
  go_enter Tryd.func20, Tryd.ntmps20
  go_wp2_with (go_at_call 50; refine (hcu.out 0 (Nat.zero_le _) _ (Below.refl _ _)).mono ?_; rintro e w2 ⟨va, vn, vc, nl, ok, a', L, rfl, ho, hb2, hcase⟩)
  have hB2 : Below w2.heap.size w2 (w2.alloc (.cells #[.slice va vn vc, .bool nl] 43)) := bl_alloc (Below.refl _ _) _
  go_loopg [3, 4, 5, 6] (if ok then xs.length - a' + 1 else 0) (fun gh v3 v4 v5 v6 wr => SpL xs w.heap.size w gh v3 v4 v5 v6 wr)
  case atStart =>
    refine ⟨[], w2.heap.size, a', vn, vc, va, nl, ok, L, rfl, rfl, rfl, LineRow.nil _ _, bl_trans hb2 hB2, Nat.le_trans hb2.size hB2.size, hb2.size, (by simp [Value.ownBlock]), Blk.new w2 43 [.slice va vn vc, .bool nl], own_bw ho hB2, ?_⟩
    rw [List.drop_zero] at hcase
    rcases hcase with ⟨rfl, h1, h2, h3⟩ | ⟨rfl, h1, h2⟩
    · exact .inl ⟨rfl, by rw [h1]; rfl, h3, by simpa using h2, by simp⟩
    · exact .inr ⟨rfl, h2, by simp⟩
  case round =>
    clear hcase ho hb2 hB2
    obtain ⟨done, g, a, vn', vc', va', nl', ok', L', rfl, rfl, rfl, ⟨vs, hv1, hv2, hv3⟩, hB, hsz, hbg, hne, hblk, hoL, hcs⟩ := hrel
    rcases hcs with ⟨rfl, hl1, ha, hda, rfl⟩ | ⟨rfl, hl1, rfl⟩
    · have k0 := hblk.cell 0
      have k1 := hblk.cell 1
      replace k0 : wr.cell? ⟨g, 0, none⟩ = some (.slice va' vn' vc') := k0
      replace k1 : wr.cell? ⟨g, 1, none⟩ = some (.bool nl') := k1
      have hgl := hblk.lt
      have hBh := Lib.hid hB
      have hbh := Lib.hid hblk
      have hv2h := Lib.hid hv2
      have hv3h := Lib.hid hv3
      have hoLh := Lib.hid hoL
      have hneh := Lib.hid hne
      have hl1h := Lib.hid hl1
      clear hB hblk hv2 hv3 hoL hne hl1
      go_wp2_with (first
        | (at_builtin; refine wpList_append_own _ rfl (.tmp 21) (.tmp 23) 40 rfl w.heap.size 43 i0 (.agg #[.slice none 0 0, .bool false]) 2 32 Tryd.underlying40 hi hz0 hz1 hz2 rfl (by decide) _ _ _ rfl (hv2h.out.alloc _) ⟨wr.heap.size, 0, none⟩ 1 1 [.slice va' vn' vc', .bool nl'] rfl rfl (cells_new _ _ rfl _ [.slice va' vn' vc', .bool nl']) (by intro u hu; simp only [List.mem_cons, List.not_mem_nil, or_false] at hu; rcases hu with rfl | rfl <;> rfl) (by unfold maxLen; omega) (by omega) (by simp; omega) ?_; intro v1 w1 hown1 hgrow1 hnil1; have hB1 : Below w.heap.size w w1 := (hBh.out.alloc (by omega) _).grown hgrow1 (by simp; omega) (fun j hj => (hv2h.out.lt j hj).1); have hq1 : Blk w1 g 43 [.slice va' vn' vc', .bool nl'] := (hbh.out.alloc _).of_eq (hgrow1.block g (by simp; omega) (fun e => hneh.out e.symm)); have j0 : w1.cell? ⟨g, 0, none⟩ = some (.slice va' vn' vc') := hq1.cell 0; have j1 : w1.cell? ⟨g, 1, none⟩ = some (.bool nl') := hq1.cell 1; have hz1' := hB1.size; have hgl1 := hq1.lt; replace hown1 := Lib.hid hown1; replace hgrow1 := Lib.hid hgrow1; replace hB1 := Lib.hid hB1; replace hq1 := Lib.hid hq1)
        | (go_at_call 50; refine (hcu.out a ha _ (bl_alloc hB1.out _)).mono ?_; rintro e w5 ⟨va2, vn2, vc2, nl2, ok2, a2, L2, rfl, ho5, hb5, hc5⟩; have hq5 := (Blk.new w1 43 [.slice va' vn' vc', .bool nl']).below hb5; have i0' : w5.cell? ⟨w1.heap.size, 0, none⟩ = some (.slice va' vn' vc') := hq5.cell 0; have i1' : w5.cell? ⟨w1.heap.size, 1, none⟩ = some (.bool nl') := hq5.cell 1; have i2' := hq5.free 0; have i3' := hq5.free 1; replace ho5 := Lib.hid ho5; replace hb5 := Lib.hid hb5; replace hc5 := Lib.hid hc5; replace hq5 := Lib.hid hq5))
      all_goals go_roundg (if ok2 then xs.length - a2 + 1 else 0)
      case measure =>
        rcases hc5.out with ⟨rfl, _, h2, h3⟩ | ⟨rfl, _, _⟩
        · simp; omega
        · simp
      case rel =>
        have hBF : Below w1.heap.size w1 ((w5.setCell ⟨w1.heap.size, 0, none⟩ (.slice va2 vn2 vc2)).setCell ⟨w1.heap.size, 1, none⟩ (.bool nl2)) := bl_setCell (p := ⟨w1.heap.size, 1, none⟩) (bl_setCell (p := ⟨w1.heap.size, 0, none⟩) (bl_trans (bl_alloc (Below.refl _ _) _) hb5.out) (Nat.le_refl _) _) (Nat.le_refl _) _
        have hrow := (LineRow.snoc hv1 hv2h.out hv3h.out hoLh.out hgrow1.out hown1.out).bw hBF
        refine ⟨done ++ [L'], w1.heap.size, a2, vn2, vc2, va2, nl2, ok2, L2, rfl, rfl, rfl, hrow, bl_trans hB1.out hBF, Nat.le_trans hz1' hBF.size, hz1', ?_, ?_, ?_, ?_⟩
        · intro e
          have := (hown1.out.lt _ e).2
          omega
        · exact (hq5.out.set 0 _).set 1 _
        · exact own_base (ownsRow_setCell_below (a := ⟨w1.heap.size, 1, none⟩) (ownsRow_setCell_below (a := ⟨w1.heap.size, 0, none⟩) ho5.out (by simp) _) (by simp) _) (by simp; omega)
        · rcases hc5.out with ⟨rfl, h1, h2, h3⟩ | ⟨rfl, h1, h2⟩
          · exact .inl ⟨rfl, by rw [hl1h.out, h1]; simp, h3, by simp; omega, by simp⟩
          · exact .inr ⟨rfl, by rw [hl1h.out, h2], by simp⟩
    · go_wp2_with fail
      all_goals go_ret
      all_goals exact ⟨_, rfl, by rw [hl1]; exact ⟨vs, hv1, hv2, hv3⟩, hB⟩
end Go.Proofs.YtaginadnaajleaaDoor
