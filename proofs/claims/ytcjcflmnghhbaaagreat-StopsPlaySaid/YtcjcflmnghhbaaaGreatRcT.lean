/-
  The reference's is and must; of chapter 27.
  Conditions: as each theorem states them.
-/
import Derived.Test.YtcjcflmnghhbaaaGreatRc1
namespace Go.Proofs.YtcjcflmnghhbaaaGreat
open Go.RowKit
set_option linter.unusedVariables false
set_option linter.unusedSimpArgs false
open CM (Pc Ps)
/-- whether a piece is one of a kind, with a text, as the reference has it -/
def rIs (x : Pc) (k : Nat) (t : List UInt8) : Bool := rk x.kind == k && rs x == t
theorem rIs_word {x : Pc} {t : List UInt8} : rIs x 1 t = x.is 1 t := by
  unfold rIs CM.Pc.is rk rs
  by_cases h : x.kind = 1
  · rw [h]; simp
  · by_cases h5 : x.kind = 5
    · rw [h5]; simp
    · rw [if_neg h5]
      have : (x.kind == 1) = false := by simpa using h
      rw [this]; simp
/-- behind a piece -/
def NextIn (s : List UInt8) (g : Nat) (p : Ps) (n : Nat) (w' : World) : Prop := match p.next s with
  | .ok q => Good n w' g s q
  | .error (a, x) => Bad w' g s p.deep a x
set_option maxHeartbeats 4000000 in
set_option maxRecDepth 100000 in
theorem ris_yes (s : List UInt8) (hs : s.length ≤ 4096) (p : Ps) (hp : p.at_ ≤ s.length) (n : Nat) (w : World) (g : Nat) (h : Good n w g s p) (hgn : g < n) (k : Nat) (t : List UInt8) (hi : rIs p.pc k t = true) :
    Calls Tryz.prog 59 #[.pointer (some ⟨g, 0, none⟩), .int .i64 (k : Int), strV t] w fun e w' => e = .returned (.bool true) ∧ Oly g w w' ∧ NextIn s g p w.heap.size w' := by
  have hnx : Calls Tryz.prog 34 #[.pointer (some ⟨g, 0, none⟩)] w fun e w' => e = .returned (.tuple #[]) ∧ Oly g w w' ∧ NextIn s g p w.heap.size w' := rnext_any s hs p hp n w g h hgn
  replace hnx := Lib.hid hnx
  obtain ⟨pa, pm, pc, hB, _⟩ := h
  obtain ⟨c0, c1, c2, c3, c4, c5, c6, c7, c8, c9⟩ := RAt.facts hB
  simp only [rdOf] at c1 c2 c3 c4 c5 c6 c7 c8 c9
  have h2 := hi
  unfold rIs at h2
  simp only [Bool.and_eq_true, beq_iff_eq] at h2
  have q0 : ((rk p.pc.kind : Int) != (k : Int)) = false := by simp [h2.1]
  have q1 : (rs p.pc == t) = true := by simpa using h2.2
  clear hB h2 hi
  generalize rk p.pc.kind = kd at *
  generalize rs p.pc = ps at *
  go_enter Tryz.func59, Tryz.ntmps59
  go_wp2_with (go_at_call 34; refine hnx.out.mono ?_; rintro e w2 ⟨rfl, hO, hN⟩)
  go_ret
  exact ⟨rfl, hO, hN⟩
set_option maxHeartbeats 4000000 in
set_option maxRecDepth 100000 in
theorem ris_no (s : List UInt8) (p : Ps) (n : Nat) (w : World) (g : Nat) (h : Good n w g s p) (k : Nat) (t : List UInt8) (hi : rIs p.pc k t = false) :
    Calls Tryz.prog 59 #[.pointer (some ⟨g, 0, none⟩), .int .i64 (k : Int), strV t] w fun e w' => e = .returned (.bool false) ∧ w = w' := by
  obtain ⟨pa, pm, pc, hB, _⟩ := h
  obtain ⟨c0, c1, c2, c3, c4, c5, c6, c7, c8, c9⟩ := RAt.facts hB
  simp only [rdOf] at c1 c2 c3 c4 c5 c6 c7 c8 c9
  clear hB
  unfold rIs at hi
  by_cases hk : rk p.pc.kind = k
  · have q0 : ((rk p.pc.kind : Int) != (k : Int)) = false := by simp [hk]
    have q1 : (rs p.pc == t) = false := by simpa [hk] using hi
    clear hk hi
    generalize rk p.pc.kind = kd at *
    generalize rs p.pc = ps at *
    go_enter Tryz.func59, Tryz.ntmps59
    go_wp2_with fail
    go_ret
    exact ⟨rfl, rfl⟩
  · have q0 : ((rk p.pc.kind : Int) != (k : Int)) = true := by simp; omega
    clear hk hi
    generalize rk p.pc.kind = kd at *
    go_enter Tryz.func59, Tryz.ntmps59
    go_wp2_with fail
    go_ret
    exact ⟨rfl, rfl⟩
set_option maxRecDepth 100000 in
theorem ris_bad {w : World} {g : Nat} {s : List UInt8} {d a : Nat} {x : Int} (h : Bad w g s d a x) (k : Nat) (t : List UInt8) : Calls Tryz.prog 59 #[.pointer (some ⟨g, 0, none⟩), .int .i64 (k : Int), strV t] w fun e w' => e = .returned (.bool false) ∧ w = w' := by
  obtain ⟨r, hB, _, _, rfl, hx⟩ := h
  have c9 := (RAt.facts hB).2.2.2.2.2.2.2.2.2
  have q0 : (r.e != 0) = true := by simpa using hx
  clear hB hx
  go_enter Tryz.func59, Tryz.ntmps59
  go_wp2_with fail
  go_ret
  exact ⟨rfl, rfl⟩
end Go.Proofs.YtcjcflmnghhbaaaGreat
/-
  The reference's must; of chapter 27. (Printed by gen_rc3.py.)
  Conditions: as each theorem states them.
-/
namespace Go.Proofs.YtcjcflmnghhbaaaGreat
open Go.RowKit
set_option linter.unusedVariables false
set_option linter.unusedSimpArgs false
open CM (Pc Ps)
theorem size_alloc' (w : World) (o : Obj) : (w.alloc o).heap.size = w.heap.size + 1 := by simp
/-- what only a new block's writes have turned -/
theorem only_new {K : Nat → Prop} {w w2 w3 : World} (h : Only K w w2) (h1 : Only (fun k => k = w.heap.size) w2 w3) : Only K w w3 :=
  ⟨h1.os.trans h.os, h1.tape.trans h.tape, h1.output.trans h.output, Nat.le_trans h.size h1.size, fun k hk hn => (h1.block k (Nat.lt_of_lt_of_le hk h.size) (by omega)).trans (h.block k hk hn)⟩
theorem NextIn.mono {s : List UInt8} {g : Nat} {p : Ps} {n m : Nat} {w : World} (h : NextIn s g p n w) (hm : m ≤ n) : NextIn s g p m w := by
  unfold NextIn at h ⊢
  cases hn : p.next s with
  | error e => rw [hn] at h; exact h
  | ok q => rw [hn] at h; exact Good.mono h hm
theorem NextIn.only {K : Nat → Prop} {s : List UInt8} {g : Nat} {p : Ps} {n : Nat} {w w' : World} (h : NextIn s g p n w) (ho : Only K w w') (hg : ¬ K g) (hK : ∀ k, n ≤ k → ¬ K k) : NextIn s g p n w' := by
  unfold NextIn at h ⊢
  cases hn : p.next s with
  | error e => rw [hn] at h; obtain ⟨r, h1, h2⟩ := h; exact ⟨r, Blk.only h1 ho hg, h2⟩
  | ok q => rw [hn] at h; exact Good.only h ho hg hK
/-- a piece that was passed over -/
def PieceIs (n : Nat) (p : Ps) (v : Value) (w : World) : Prop := ∃ pa pm pc, v = .agg #[.int .i64 (rk p.pc.kind : Int), .int .i64 (p.pc.at_ : Int), strV (rs p.pc), .int .i64 p.pc.n, .slice pa pm pc] ∧ (p.pc.kind = 3 → pm = p.pc.s.length ∧ p.pc.s.length ≤ pc ∧ BytesN n w pa p.pc.s)
/-- some piece -/
def SomeP (v : Value) : Prop := ∃ (k a : Nat) (t : List UInt8) (m : Int) (pa : Option Addr) (pm pc : Nat), v = .agg #[.int .i64 (k : Int), .int .i64 (a : Int), strV t, .int .i64 m, .slice pa pm pc]
set_option maxHeartbeats 4000000 in
set_option maxRecDepth 100000 in
theorem must_yes (s : List UInt8) (hs : s.length ≤ 4096) (p : Ps) (hp : p.at_ ≤ s.length) (n : Nat) (w : World) (g : Nat) (h : Good n w g s p) (hgn : g < n) (hnw : n ≤ w.heap.size) (k : Nat) (l : List (List UInt8)) (ln b c : Nat) (hln : l.length = ln) (hl : StrsAt w b l) (h0 : 0 < ln) (hl2 : ln ≤ 1000) (hk : rk p.pc.kind = k) (hin : inS (rs p.pc) l = true) :
    Calls Tryz.prog 93 #[.pointer (some ⟨g, 0, none⟩), .int .i64 (k : Int), .slice (some ⟨b, 0, none⟩) ln c] w fun e w' => Oly g w w' ∧ NextIn s g p w.heap.size w' ∧ ∃ v, e = .returned v ∧ PieceIs n p v w' := by
  have hG := h
  obtain ⟨pa, pm, pc, hB, hq⟩ := h
  generalize hr : rdOf p pa pm pc = r at hB
  have hr2 : r.kind = rk p.pc.kind := by rw [← hr]; rfl
  have hr3 : r.pat = p.pc.at_ := by rw [← hr]; rfl
  have hr4 : r.ps = rs p.pc := by rw [← hr]; rfl
  have hr5 : r.pn = p.pc.n := by rw [← hr]; rfl
  have hr6 : r.pa = pa ∧ r.pm = pm ∧ r.pc = pc := by rw [← hr]; exact ⟨rfl, rfl, rfl⟩
  have hre : r.e = 0 := by rw [← hr]; rfl
  have hrd : r.deep = (p.deep : Int) := by rw [← hr]; rfl
  have hA := (Blk.new w 102 [.int .i64 0, .int .i64 0, .string ⟨#[]⟩, .int .i64 0, .slice none 0 0]).alloc (.cells #[.int .i64 (r.kind : Int), .int .i64 (r.pat : Int), strV r.ps, .int .i64 r.pn, .slice r.pa r.pm r.pc] 102)
  have hP := Blk.new (w.alloc (.cells #[.int .i64 0, .int .i64 0, .string ⟨#[]⟩, .int .i64 0, .slice none 0 0] 102)) 102 [.int .i64 (r.kind : Int), .int .i64 (r.pat : Int), strV r.ps, .int .i64 r.pn, .slice r.pa r.pm r.pc]
  rw [size_alloc'] at hP
  have hb1 : Below w.heap.size w ((w.alloc (.cells #[.int .i64 0, .int .i64 0, .string ⟨#[]⟩, .int .i64 0, .slice none 0 0] 102)).alloc (.cells #[.int .i64 (r.kind : Int), .int .i64 (r.pat : Int), strV r.ps, .int .i64 r.pn, .slice r.pa r.pm r.pc] 102)) := bl_alloc (bl_alloc (Below.refl _ _) _) _
  obtain ⟨W1, hW1⟩ : ∃ W1, (w.alloc (.cells #[.int .i64 0, .int .i64 0, .string ⟨#[]⟩, .int .i64 0, .slice none 0 0] 102)).alloc (.cells #[.int .i64 (r.kind : Int), .int .i64 (r.pat : Int), strV r.ps, .int .i64 r.pn, .slice r.pa r.pm r.pc] 102) = W1 := ⟨_, rfl⟩
  have hA1 : Blk W1 w.heap.size 102 [.int .i64 0, .int .i64 0, .string ⟨#[]⟩, .int .i64 0, .slice none 0 0] := hW1 ▸ hA
  have hP1 : Blk W1 (w.heap.size + 1) 102 [.int .i64 (r.kind : Int), .int .i64 (r.pat : Int), strV r.ps, .int .i64 r.pn, .slice r.pa r.pm r.pc] := hW1 ▸ hP
  rw [hW1] at hb1
  have hgw := hB.lt
  have hB1 := hB.below hb1
  obtain ⟨c0, c1, c2, c3, c4, c5, c6, c7, c8, c9⟩ := RAt.facts hB
  have c9' := (RAt.facts hB1).2.2.2.2.2.2.2.2.2
  have p0 : W1.cell? ⟨w.heap.size + 1, 0, none⟩ = some (.int .i64 (r.kind : Int)) := hP1.cell 0
  have p1 : W1.cell? ⟨w.heap.size + 1, 1, none⟩ = some (.int .i64 (r.pat : Int)) := hP1.cell 1
  have p2 : W1.cell? ⟨w.heap.size + 1, 2, none⟩ = some (strV r.ps) := hP1.cell 2
  have hpl := hP1.lt
  have hkeep := Lib.hid (fun w2 (hO : Oly g W1 w2) => (⟨hA1.only hO (by show ¬ w.heap.size = g; omega), hP1.only hO (by show ¬ w.heap.size + 1 = g; omega)⟩ : Blk w2 w.heap.size 102 _ ∧ Blk w2 (w.heap.size + 1) 102 _))
  have hend := Lib.hid (fun w2 (hO : Oly g W1 w2) (v0 v1 v2 v3 v4 : Value) => (⟨((((Blk.set (Blk.set (Blk.set (Blk.set (Blk.set (hA1.only hO (by show ¬ w.heap.size = g; omega)) 0 v0) 1 v1) 2 v2) 3 v3) 4 v4)))),
    (Only.trans (Only.of_below hb1) hO).trans ⟨rfl, rfl, rfl, by simp [World.setCell], fun k hk hn => rfl⟩⟩ : Blk _ w.heap.size 102 [v0, v1, v2, v3, v4] ∧ Oly g w w2))
  have hset := Lib.hid (fun w2 (hO : Oly g W1 w2) (v0 v1 v2 v3 v4 : Value) => (by
    have h1 : Only (fun k => k = w.heap.size) w2 (((((w2.setCell ⟨w.heap.size, 0, none⟩ v0).setCell ⟨w.heap.size, 1, none⟩ v1).setCell ⟨w.heap.size, 2, none⟩ v2).setCell ⟨w.heap.size, 3, none⟩ v3).setCell ⟨w.heap.size, 4, none⟩ v4) :=
      ((((((Only.refl (fun k => k = w.heap.size) w2).setCell (p := ⟨w.heap.size, 0, none⟩) rfl v0).setCell (p := ⟨w.heap.size, 1, none⟩) rfl v1).setCell (p := ⟨w.heap.size, 2, none⟩) rfl v2).setCell (p := ⟨w.heap.size, 3, none⟩) rfl v3).setCell (p := ⟨w.heap.size, 4, none⟩) rfl v4)
    exact ⟨h1, only_new (Only.trans (Only.of_below hb1) hO) h1⟩ : Only (fun k => k = w.heap.size) w2 (((((w2.setCell ⟨w.heap.size, 0, none⟩ v0).setCell ⟨w.heap.size, 1, none⟩ v1).setCell ⟨w.heap.size, 2, none⟩ v2).setCell ⟨w.heap.size, 3, none⟩ v3).setCell ⟨w.heap.size, 4, none⟩ v4) ∧ Oly g w (((((w2.setCell ⟨w.heap.size, 0, none⟩ v0).setCell ⟨w.heap.size, 1, none⟩ v1).setCell ⟨w.heap.size, 2, none⟩ v2).setCell ⟨w.heap.size, 3, none⟩ v3).setCell ⟨w.heap.size, 4, none⟩ v4)))
  have hnx : Calls Tryz.prog 34 #[.pointer (some ⟨g, 0, none⟩)] W1 fun e w' => e = .returned (.tuple #[]) ∧ Oly g W1 w' ∧ NextIn s g p W1.heap.size w' := rnext_any s hs p hp n W1 g (hG.below hb1) hgn
  replace hnx := Lib.hid hnx
  have hqb := Lib.hid (fun w3 (hO : Oly g w w3) (hk : p.pc.kind = 3) => (⟨(hq hk).1, (hq hk).2.1, (hq hk).2.2.only hO (fun k hk e => by omega)⟩ : pm = p.pc.s.length ∧ p.pc.s.length ≤ pc ∧ BytesN n w3 pa p.pc.s))
  replace hG := Lib.hid hG
  replace hq := Lib.hid hq
  rw [hre] at c9'
  replace hr3 := Lib.hid hr3
  replace hr5 := Lib.hid hr5
  replace hr6 := Lib.hid hr6
  replace hre := Lib.hid hre
  replace hrd := Lib.hid hrd
  replace hr := Lib.hid hr
  have hin1 := Lib.hid (by have := in_at (rs p.pc) l ln hln W1 b c (hl.below hb1) hl2; rw [hin, ← hr4] at this; exact this : Calls Tryz.prog 39 #[strV r.ps, .slice (some ⟨b, 0, none⟩) ln c] W1 fun e w' => e = .returned (.bool true) ∧ W1 = w')
  have q0 : ((r.kind : Int) != (k : Int)) = false := by rw [hr2, hk]; simp
  have q1 : (0 : Int) < (ln : Int) := by omega
  replace hr2 := Lib.hid hr2
  replace hr4 := Lib.hid hr4
  clear hk hin hl hln
  replace hb1 := Lib.hid hb1
  replace hB1 := Lib.hid hB1
  replace hW1 := Lib.hid hW1
  clear hA hP hA1 hP1 hB hend
  go_enter Tryz.func93, Tryz.ntmps93
  go_upto_region 2 with fail
  rw [hW1.out]
  go_wp2_with (first
    | (go_at_call 39; (with_reducible refine hin1.out.mono ?_); rintro e w3 ⟨rfl, rfl⟩)
    | (go_at_call 34; refine hnx.out.mono ?_; rintro e w2 ⟨rfl, hOx, hN⟩; have k1 := (hkeep.out _ hOx).1; have k2 := (hkeep.out _ hOx).2; have x0 := k1.cell 0; have x1 := k1.cell 1; have x2 := k1.cell 2; have x3 := k1.cell 3; have x4 := k1.cell 4; have y0 := k2.cell 0; have y1 := k2.cell 1; have y2 := k2.cell 2; have y3 := k2.cell 3; have y4 := k2.cell 4; simp only [List.getElem?_cons_zero, List.getElem?_cons_succ] at x0 x1 x2 x3 x4 y0 y1 y2 y3 y4; have z0 := k1.free 0; have z1 := k1.free 1; have z2 := k1.free 2; have z3 := k1.free 3; have z4 := k1.free 4; have kl := k1.lt; have kl2 := k2.lt; clear k1 k2))
  obtain ⟨o1, o2⟩ := hset.out _ hOx (.int .i64 (r.kind : Int)) (.int .i64 (r.pat : Int)) (strV r.ps) (.int .i64 r.pn) (.slice r.pa r.pm r.pc)
  have hF := ((((Blk.set (Blk.set (Blk.set (Blk.set (Blk.set (hkeep.out _ hOx).1 0 (.int .i64 (r.kind : Int))) 1 (.int .i64 (r.pat : Int))) 2 (strV r.ps)) 3 (.int .i64 r.pn)) 4 (.slice r.pa r.pm r.pc)))))
  have e0 := hF.cell 0
  have e1 := hF.cell 1
  have e2 := hF.cell 2
  have e3 := hF.cell 3
  have e4 := hF.cell 4
  simp only [List.set_cons_zero, List.set_cons_succ, List.getElem?_cons_zero, List.getElem?_cons_succ] at e0 e1 e2 e3 e4
  clear hF
  generalize World.setCell (World.setCell (World.setCell (World.setCell (World.setCell _ _ _) _ _) _ _) _ _) _ _ = W9 at *
  refine bodyPost_ret (v := .agg #[.int .i64 (r.kind : Int), .int .i64 (r.pat : Int), strV r.ps, .int .i64 r.pn, .slice r.pa r.pm r.pc]) (by simp [results, Tryz.results93, go_sem, e0, e1, e2, e3, e4]) rfl ?_
  have hsz := hb1.out.size
  refine ⟨o2, ((hN.only o1 (by show ¬ g = w.heap.size; omega) (fun k hk e => by omega)).mono hsz), _, rfl, r.pa, r.pm, r.pc, by rw [hr2.out, hr3.out, hr4.out, hr5.out], ?_⟩
  obtain ⟨q1, q2, q3⟩ := hr6.out
  rw [q1, q2, q3]
  exact hqb.out _ o2
set_option maxHeartbeats 4000000 in
set_option maxRecDepth 100000 in
theorem must_kind (s : List UInt8) (hs : s.length ≤ 4096) (p : Ps) (hp : p.at_ ≤ s.length) (n : Nat) (w : World) (g : Nat) (h : Good n w g s p) (hgn : g < n) (hnw : n ≤ w.heap.size) (k : Nat) (hk : rk p.pc.kind = k) :
    Calls Tryz.prog 93 #[.pointer (some ⟨g, 0, none⟩), .int .i64 (k : Int), .slice none 0 0] w fun e w' => Oly g w w' ∧ NextIn s g p w.heap.size w' ∧ ∃ v, e = .returned v ∧ PieceIs n p v w' := by
  have hG := h
  obtain ⟨pa, pm, pc, hB, hq⟩ := h
  generalize hr : rdOf p pa pm pc = r at hB
  have hr2 : r.kind = rk p.pc.kind := by rw [← hr]; rfl
  have hr3 : r.pat = p.pc.at_ := by rw [← hr]; rfl
  have hr4 : r.ps = rs p.pc := by rw [← hr]; rfl
  have hr5 : r.pn = p.pc.n := by rw [← hr]; rfl
  have hr6 : r.pa = pa ∧ r.pm = pm ∧ r.pc = pc := by rw [← hr]; exact ⟨rfl, rfl, rfl⟩
  have hre : r.e = 0 := by rw [← hr]; rfl
  have hrd : r.deep = (p.deep : Int) := by rw [← hr]; rfl
  have hA := (Blk.new w 102 [.int .i64 0, .int .i64 0, .string ⟨#[]⟩, .int .i64 0, .slice none 0 0]).alloc (.cells #[.int .i64 (r.kind : Int), .int .i64 (r.pat : Int), strV r.ps, .int .i64 r.pn, .slice r.pa r.pm r.pc] 102)
  have hP := Blk.new (w.alloc (.cells #[.int .i64 0, .int .i64 0, .string ⟨#[]⟩, .int .i64 0, .slice none 0 0] 102)) 102 [.int .i64 (r.kind : Int), .int .i64 (r.pat : Int), strV r.ps, .int .i64 r.pn, .slice r.pa r.pm r.pc]
  rw [size_alloc'] at hP
  have hb1 : Below w.heap.size w ((w.alloc (.cells #[.int .i64 0, .int .i64 0, .string ⟨#[]⟩, .int .i64 0, .slice none 0 0] 102)).alloc (.cells #[.int .i64 (r.kind : Int), .int .i64 (r.pat : Int), strV r.ps, .int .i64 r.pn, .slice r.pa r.pm r.pc] 102)) := bl_alloc (bl_alloc (Below.refl _ _) _) _
  obtain ⟨W1, hW1⟩ : ∃ W1, (w.alloc (.cells #[.int .i64 0, .int .i64 0, .string ⟨#[]⟩, .int .i64 0, .slice none 0 0] 102)).alloc (.cells #[.int .i64 (r.kind : Int), .int .i64 (r.pat : Int), strV r.ps, .int .i64 r.pn, .slice r.pa r.pm r.pc] 102) = W1 := ⟨_, rfl⟩
  have hA1 : Blk W1 w.heap.size 102 [.int .i64 0, .int .i64 0, .string ⟨#[]⟩, .int .i64 0, .slice none 0 0] := hW1 ▸ hA
  have hP1 : Blk W1 (w.heap.size + 1) 102 [.int .i64 (r.kind : Int), .int .i64 (r.pat : Int), strV r.ps, .int .i64 r.pn, .slice r.pa r.pm r.pc] := hW1 ▸ hP
  rw [hW1] at hb1
  have hgw := hB.lt
  have hB1 := hB.below hb1
  obtain ⟨c0, c1, c2, c3, c4, c5, c6, c7, c8, c9⟩ := RAt.facts hB
  have c9' := (RAt.facts hB1).2.2.2.2.2.2.2.2.2
  have p0 : W1.cell? ⟨w.heap.size + 1, 0, none⟩ = some (.int .i64 (r.kind : Int)) := hP1.cell 0
  have p1 : W1.cell? ⟨w.heap.size + 1, 1, none⟩ = some (.int .i64 (r.pat : Int)) := hP1.cell 1
  have p2 : W1.cell? ⟨w.heap.size + 1, 2, none⟩ = some (strV r.ps) := hP1.cell 2
  have hpl := hP1.lt
  have hkeep := Lib.hid (fun w2 (hO : Oly g W1 w2) => (⟨hA1.only hO (by show ¬ w.heap.size = g; omega), hP1.only hO (by show ¬ w.heap.size + 1 = g; omega)⟩ : Blk w2 w.heap.size 102 _ ∧ Blk w2 (w.heap.size + 1) 102 _))
  have hend := Lib.hid (fun w2 (hO : Oly g W1 w2) (v0 v1 v2 v3 v4 : Value) => (⟨((((Blk.set (Blk.set (Blk.set (Blk.set (Blk.set (hA1.only hO (by show ¬ w.heap.size = g; omega)) 0 v0) 1 v1) 2 v2) 3 v3) 4 v4)))),
    (Only.trans (Only.of_below hb1) hO).trans ⟨rfl, rfl, rfl, by simp [World.setCell], fun k hk hn => rfl⟩⟩ : Blk _ w.heap.size 102 [v0, v1, v2, v3, v4] ∧ Oly g w w2))
  have hset := Lib.hid (fun w2 (hO : Oly g W1 w2) (v0 v1 v2 v3 v4 : Value) => (by
    have h1 : Only (fun k => k = w.heap.size) w2 (((((w2.setCell ⟨w.heap.size, 0, none⟩ v0).setCell ⟨w.heap.size, 1, none⟩ v1).setCell ⟨w.heap.size, 2, none⟩ v2).setCell ⟨w.heap.size, 3, none⟩ v3).setCell ⟨w.heap.size, 4, none⟩ v4) :=
      ((((((Only.refl (fun k => k = w.heap.size) w2).setCell (p := ⟨w.heap.size, 0, none⟩) rfl v0).setCell (p := ⟨w.heap.size, 1, none⟩) rfl v1).setCell (p := ⟨w.heap.size, 2, none⟩) rfl v2).setCell (p := ⟨w.heap.size, 3, none⟩) rfl v3).setCell (p := ⟨w.heap.size, 4, none⟩) rfl v4)
    exact ⟨h1, only_new (Only.trans (Only.of_below hb1) hO) h1⟩ : Only (fun k => k = w.heap.size) w2 (((((w2.setCell ⟨w.heap.size, 0, none⟩ v0).setCell ⟨w.heap.size, 1, none⟩ v1).setCell ⟨w.heap.size, 2, none⟩ v2).setCell ⟨w.heap.size, 3, none⟩ v3).setCell ⟨w.heap.size, 4, none⟩ v4) ∧ Oly g w (((((w2.setCell ⟨w.heap.size, 0, none⟩ v0).setCell ⟨w.heap.size, 1, none⟩ v1).setCell ⟨w.heap.size, 2, none⟩ v2).setCell ⟨w.heap.size, 3, none⟩ v3).setCell ⟨w.heap.size, 4, none⟩ v4)))
  have hnx : Calls Tryz.prog 34 #[.pointer (some ⟨g, 0, none⟩)] W1 fun e w' => e = .returned (.tuple #[]) ∧ Oly g W1 w' ∧ NextIn s g p W1.heap.size w' := rnext_any s hs p hp n W1 g (hG.below hb1) hgn
  replace hnx := Lib.hid hnx
  have hqb := Lib.hid (fun w3 (hO : Oly g w w3) (hk : p.pc.kind = 3) => (⟨(hq hk).1, (hq hk).2.1, (hq hk).2.2.only hO (fun k hk e => by omega)⟩ : pm = p.pc.s.length ∧ p.pc.s.length ≤ pc ∧ BytesN n w3 pa p.pc.s))
  replace hG := Lib.hid hG
  replace hq := Lib.hid hq
  rw [hre] at c9'
  replace hr3 := Lib.hid hr3
  replace hr5 := Lib.hid hr5
  replace hr6 := Lib.hid hr6
  replace hre := Lib.hid hre
  replace hrd := Lib.hid hrd
  replace hr := Lib.hid hr
  have q0 : ((r.kind : Int) != (k : Int)) = false := by rw [hr2, hk]; simp
  replace hr2 := Lib.hid hr2
  replace hr4 := Lib.hid hr4
  clear hk
  replace hb1 := Lib.hid hb1
  replace hB1 := Lib.hid hB1
  replace hW1 := Lib.hid hW1
  clear hA hP hA1 hP1 hB hend
  go_enter Tryz.func93, Tryz.ntmps93
  go_upto_region 2 with fail
  rw [hW1.out]
  go_wp2_with (first
    | (go_at_call 34; refine hnx.out.mono ?_; rintro e w2 ⟨rfl, hOx, hN⟩; have k1 := (hkeep.out _ hOx).1; have k2 := (hkeep.out _ hOx).2; have x0 := k1.cell 0; have x1 := k1.cell 1; have x2 := k1.cell 2; have x3 := k1.cell 3; have x4 := k1.cell 4; have y0 := k2.cell 0; have y1 := k2.cell 1; have y2 := k2.cell 2; have y3 := k2.cell 3; have y4 := k2.cell 4; simp only [List.getElem?_cons_zero, List.getElem?_cons_succ] at x0 x1 x2 x3 x4 y0 y1 y2 y3 y4; have z0 := k1.free 0; have z1 := k1.free 1; have z2 := k1.free 2; have z3 := k1.free 3; have z4 := k1.free 4; have kl := k1.lt; have kl2 := k2.lt; clear k1 k2))
  obtain ⟨o1, o2⟩ := hset.out _ hOx (.int .i64 (r.kind : Int)) (.int .i64 (r.pat : Int)) (strV r.ps) (.int .i64 r.pn) (.slice r.pa r.pm r.pc)
  have hF := ((((Blk.set (Blk.set (Blk.set (Blk.set (Blk.set (hkeep.out _ hOx).1 0 (.int .i64 (r.kind : Int))) 1 (.int .i64 (r.pat : Int))) 2 (strV r.ps)) 3 (.int .i64 r.pn)) 4 (.slice r.pa r.pm r.pc)))))
  have e0 := hF.cell 0
  have e1 := hF.cell 1
  have e2 := hF.cell 2
  have e3 := hF.cell 3
  have e4 := hF.cell 4
  simp only [List.set_cons_zero, List.set_cons_succ, List.getElem?_cons_zero, List.getElem?_cons_succ] at e0 e1 e2 e3 e4
  clear hF
  generalize World.setCell (World.setCell (World.setCell (World.setCell (World.setCell _ _ _) _ _) _ _) _ _) _ _ = W9 at *
  refine bodyPost_ret (v := .agg #[.int .i64 (r.kind : Int), .int .i64 (r.pat : Int), strV r.ps, .int .i64 r.pn, .slice r.pa r.pm r.pc]) (by simp [results, Tryz.results93, go_sem, e0, e1, e2, e3, e4]) rfl ?_
  have hsz := hb1.out.size
  refine ⟨o2, ((hN.only o1 (by show ¬ g = w.heap.size; omega) (fun k hk e => by omega)).mono hsz), _, rfl, r.pa, r.pm, r.pc, by rw [hr2.out, hr3.out, hr4.out, hr5.out], ?_⟩
  obtain ⟨q1, q2, q3⟩ := hr6.out
  rw [q1, q2, q3]
  exact hqb.out _ o2
set_option maxHeartbeats 4000000 in
set_option maxRecDepth 100000 in
theorem must_other (s : List UInt8) (hs : s.length ≤ 4096) (p : Ps) (hp : p.at_ ≤ s.length) (n : Nat) (w : World) (g : Nat) (h : Good n w g s p) (hgn : g < n) (hnw : n ≤ w.heap.size) (k : Nat) (lv : Value) (hk : rk p.pc.kind ≠ k) :
    Calls Tryz.prog 93 #[.pointer (some ⟨g, 0, none⟩), .int .i64 (k : Int), lv] w fun e w' => Oly g w w' ∧ Bad w' g s p.deep p.pc.at_ 9 ∧ ∃ v, e = .returned v ∧ SomeP v := by
  have hG := h
  obtain ⟨pa, pm, pc, hB, hq⟩ := h
  generalize hr : rdOf p pa pm pc = r at hB
  have hr2 : r.kind = rk p.pc.kind := by rw [← hr]; rfl
  have hr3 : r.pat = p.pc.at_ := by rw [← hr]; rfl
  have hr4 : r.ps = rs p.pc := by rw [← hr]; rfl
  have hr5 : r.pn = p.pc.n := by rw [← hr]; rfl
  have hr6 : r.pa = pa ∧ r.pm = pm ∧ r.pc = pc := by rw [← hr]; exact ⟨rfl, rfl, rfl⟩
  have hre : r.e = 0 := by rw [← hr]; rfl
  have hrd : r.deep = (p.deep : Int) := by rw [← hr]; rfl
  have hA := (Blk.new w 102 [.int .i64 0, .int .i64 0, .string ⟨#[]⟩, .int .i64 0, .slice none 0 0]).alloc (.cells #[.int .i64 (r.kind : Int), .int .i64 (r.pat : Int), strV r.ps, .int .i64 r.pn, .slice r.pa r.pm r.pc] 102)
  have hP := Blk.new (w.alloc (.cells #[.int .i64 0, .int .i64 0, .string ⟨#[]⟩, .int .i64 0, .slice none 0 0] 102)) 102 [.int .i64 (r.kind : Int), .int .i64 (r.pat : Int), strV r.ps, .int .i64 r.pn, .slice r.pa r.pm r.pc]
  rw [size_alloc'] at hP
  have hb1 : Below w.heap.size w ((w.alloc (.cells #[.int .i64 0, .int .i64 0, .string ⟨#[]⟩, .int .i64 0, .slice none 0 0] 102)).alloc (.cells #[.int .i64 (r.kind : Int), .int .i64 (r.pat : Int), strV r.ps, .int .i64 r.pn, .slice r.pa r.pm r.pc] 102)) := bl_alloc (bl_alloc (Below.refl _ _) _) _
  obtain ⟨W1, hW1⟩ : ∃ W1, (w.alloc (.cells #[.int .i64 0, .int .i64 0, .string ⟨#[]⟩, .int .i64 0, .slice none 0 0] 102)).alloc (.cells #[.int .i64 (r.kind : Int), .int .i64 (r.pat : Int), strV r.ps, .int .i64 r.pn, .slice r.pa r.pm r.pc] 102) = W1 := ⟨_, rfl⟩
  have hA1 : Blk W1 w.heap.size 102 [.int .i64 0, .int .i64 0, .string ⟨#[]⟩, .int .i64 0, .slice none 0 0] := hW1 ▸ hA
  have hP1 : Blk W1 (w.heap.size + 1) 102 [.int .i64 (r.kind : Int), .int .i64 (r.pat : Int), strV r.ps, .int .i64 r.pn, .slice r.pa r.pm r.pc] := hW1 ▸ hP
  rw [hW1] at hb1
  have hgw := hB.lt
  have hB1 := hB.below hb1
  obtain ⟨c0, c1, c2, c3, c4, c5, c6, c7, c8, c9⟩ := RAt.facts hB
  have c9' := (RAt.facts hB1).2.2.2.2.2.2.2.2.2
  have p0 : W1.cell? ⟨w.heap.size + 1, 0, none⟩ = some (.int .i64 (r.kind : Int)) := hP1.cell 0
  have p1 : W1.cell? ⟨w.heap.size + 1, 1, none⟩ = some (.int .i64 (r.pat : Int)) := hP1.cell 1
  have p2 : W1.cell? ⟨w.heap.size + 1, 2, none⟩ = some (strV r.ps) := hP1.cell 2
  have hpl := hP1.lt
  have hkeep := Lib.hid (fun w2 (hO : Oly g W1 w2) => (⟨hA1.only hO (by show ¬ w.heap.size = g; omega), hP1.only hO (by show ¬ w.heap.size + 1 = g; omega)⟩ : Blk w2 w.heap.size 102 _ ∧ Blk w2 (w.heap.size + 1) 102 _))
  have hend := Lib.hid (fun w2 (hO : Oly g W1 w2) (v0 v1 v2 v3 v4 : Value) => (⟨((((Blk.set (Blk.set (Blk.set (Blk.set (Blk.set (hA1.only hO (by show ¬ w.heap.size = g; omega)) 0 v0) 1 v1) 2 v2) 3 v3) 4 v4)))),
    (Only.trans (Only.of_below hb1) hO).trans ⟨rfl, rfl, rfl, by simp [World.setCell], fun k hk hn => rfl⟩⟩ : Blk _ w.heap.size 102 [v0, v1, v2, v3, v4] ∧ Oly g w w2))
  have hset := Lib.hid (fun w2 (hO : Oly g W1 w2) (v0 v1 v2 v3 v4 : Value) => (by
    have h1 : Only (fun k => k = w.heap.size) w2 (((((w2.setCell ⟨w.heap.size, 0, none⟩ v0).setCell ⟨w.heap.size, 1, none⟩ v1).setCell ⟨w.heap.size, 2, none⟩ v2).setCell ⟨w.heap.size, 3, none⟩ v3).setCell ⟨w.heap.size, 4, none⟩ v4) :=
      ((((((Only.refl (fun k => k = w.heap.size) w2).setCell (p := ⟨w.heap.size, 0, none⟩) rfl v0).setCell (p := ⟨w.heap.size, 1, none⟩) rfl v1).setCell (p := ⟨w.heap.size, 2, none⟩) rfl v2).setCell (p := ⟨w.heap.size, 3, none⟩) rfl v3).setCell (p := ⟨w.heap.size, 4, none⟩) rfl v4)
    exact ⟨h1, only_new (Only.trans (Only.of_below hb1) hO) h1⟩ : Only (fun k => k = w.heap.size) w2 (((((w2.setCell ⟨w.heap.size, 0, none⟩ v0).setCell ⟨w.heap.size, 1, none⟩ v1).setCell ⟨w.heap.size, 2, none⟩ v2).setCell ⟨w.heap.size, 3, none⟩ v3).setCell ⟨w.heap.size, 4, none⟩ v4) ∧ Oly g w (((((w2.setCell ⟨w.heap.size, 0, none⟩ v0).setCell ⟨w.heap.size, 1, none⟩ v1).setCell ⟨w.heap.size, 2, none⟩ v2).setCell ⟨w.heap.size, 3, none⟩ v3).setCell ⟨w.heap.size, 4, none⟩ v4)))
  have hfl := rfail_ok hB1 hre r.pat 9
  have hfl : Calls Tryz.prog 36 #[.pointer (some ⟨g, 0, none⟩), .int .i64 (r.pat : Int), .int .i64 9] W1 fun e w' => e = .returned (.tuple #[]) ∧ Blk w' g 104 (({ r with bad := (p.pc.at_ : Int), e := 9 } : Rd).cells s) ∧ Oly g W1 w' := by rw [hr3] at hfl ⊢; exact hfl
  replace hfl := Lib.hid hfl
  rw [hre] at c9'
  replace hG := Lib.hid hG
  replace hq := Lib.hid hq
  replace hr3 := Lib.hid hr3
  replace hr5 := Lib.hid hr5
  replace hr6 := Lib.hid hr6
  replace hre := Lib.hid hre
  replace hrd := Lib.hid hrd
  replace hr := Lib.hid hr
  have q0 : ((r.kind : Int) != (k : Int)) = true := by rw [hr2]; simp; omega
  replace hr2 := Lib.hid hr2
  replace hr4 := Lib.hid hr4
  clear hk
  replace hb1 := Lib.hid hb1
  replace hB1 := Lib.hid hB1
  replace hW1 := Lib.hid hW1
  clear hA hP hA1 hP1 hB hend
  go_enter Tryz.func93, Tryz.ntmps93
  go_upto_region 2 with fail
  rw [hW1.out]
  go_wp2_with (first
    | (go_at_call 36; (with_reducible refine hfl.out.mono ?_); rintro e w2 ⟨rfl, hB2, hOx⟩; replace hB2 := Lib.hid (⟨_, hB2, hrd.out, rfl, rfl, by decide⟩ : Bad w2 g s p.deep p.pc.at_ 9); have hn2 := Lib.hid (rnext_bad hB2.out))
    | (go_at_call 34; refine hn2.out.mono ?_; rintro e w3 ⟨rfl, rfl⟩; have k1 := (hkeep.out _ hOx).1; have k2 := (hkeep.out _ hOx).2; have x0 := k1.cell 0; have x1 := k1.cell 1; have x2 := k1.cell 2; have x3 := k1.cell 3; have x4 := k1.cell 4; have y0 := k2.cell 0; have y1 := k2.cell 1; have y2 := k2.cell 2; have y3 := k2.cell 3; have y4 := k2.cell 4; simp only [List.getElem?_cons_zero, List.getElem?_cons_succ] at x0 x1 x2 x3 x4 y0 y1 y2 y3 y4; have z0 := k1.free 0; have z1 := k1.free 1; have z2 := k1.free 2; have z3 := k1.free 3; have z4 := k1.free 4; have kl := k1.lt; have kl2 := k2.lt; clear k1 k2))
  obtain ⟨o1, o2⟩ := hset.out _ hOx (.int .i64 (r.kind : Int)) (.int .i64 (r.pat : Int)) (strV r.ps) (.int .i64 r.pn) (.slice r.pa r.pm r.pc)
  have hF := ((((Blk.set (Blk.set (Blk.set (Blk.set (Blk.set (hkeep.out _ hOx).1 0 (.int .i64 (r.kind : Int))) 1 (.int .i64 (r.pat : Int))) 2 (strV r.ps)) 3 (.int .i64 r.pn)) 4 (.slice r.pa r.pm r.pc)))))
  have e0 := hF.cell 0
  have e1 := hF.cell 1
  have e2 := hF.cell 2
  have e3 := hF.cell 3
  have e4 := hF.cell 4
  simp only [List.set_cons_zero, List.set_cons_succ, List.getElem?_cons_zero, List.getElem?_cons_succ] at e0 e1 e2 e3 e4
  clear hF
  generalize World.setCell (World.setCell (World.setCell (World.setCell (World.setCell _ _ _) _ _) _ _) _ _) _ _ = W9 at *
  refine bodyPost_ret (v := .agg #[.int .i64 (r.kind : Int), .int .i64 (r.pat : Int), strV r.ps, .int .i64 r.pn, .slice r.pa r.pm r.pc]) (by simp [results, Tryz.results93, go_sem, e0, e1, e2, e3, e4]) rfl ?_
  refine ⟨o2, ?_, _, rfl, _, _, _, _, _, _, _, rfl⟩
  obtain ⟨r2, h1, h2⟩ := hB2.out
  exact ⟨r2, Blk.only h1 o1 (by show ¬ g = w.heap.size; omega), h2⟩
set_option maxHeartbeats 4000000 in
set_option maxRecDepth 100000 in
theorem must_none (s : List UInt8) (hs : s.length ≤ 4096) (p : Ps) (hp : p.at_ ≤ s.length) (n : Nat) (w : World) (g : Nat) (h : Good n w g s p) (hgn : g < n) (hnw : n ≤ w.heap.size) (k : Nat) (l : List (List UInt8)) (ln b c : Nat) (hln : l.length = ln) (hl : StrsAt w b l) (h0 : 0 < ln) (hl2 : ln ≤ 1000) (hk : rk p.pc.kind = k) (hin : inS (rs p.pc) l = false) :
    Calls Tryz.prog 93 #[.pointer (some ⟨g, 0, none⟩), .int .i64 (k : Int), .slice (some ⟨b, 0, none⟩) ln c] w fun e w' => Oly g w w' ∧ Bad w' g s p.deep p.pc.at_ 9 ∧ ∃ v, e = .returned v ∧ SomeP v := by
  have hG := h
  obtain ⟨pa, pm, pc, hB, hq⟩ := h
  generalize hr : rdOf p pa pm pc = r at hB
  have hr2 : r.kind = rk p.pc.kind := by rw [← hr]; rfl
  have hr3 : r.pat = p.pc.at_ := by rw [← hr]; rfl
  have hr4 : r.ps = rs p.pc := by rw [← hr]; rfl
  have hr5 : r.pn = p.pc.n := by rw [← hr]; rfl
  have hr6 : r.pa = pa ∧ r.pm = pm ∧ r.pc = pc := by rw [← hr]; exact ⟨rfl, rfl, rfl⟩
  have hre : r.e = 0 := by rw [← hr]; rfl
  have hrd : r.deep = (p.deep : Int) := by rw [← hr]; rfl
  have hA := (Blk.new w 102 [.int .i64 0, .int .i64 0, .string ⟨#[]⟩, .int .i64 0, .slice none 0 0]).alloc (.cells #[.int .i64 (r.kind : Int), .int .i64 (r.pat : Int), strV r.ps, .int .i64 r.pn, .slice r.pa r.pm r.pc] 102)
  have hP := Blk.new (w.alloc (.cells #[.int .i64 0, .int .i64 0, .string ⟨#[]⟩, .int .i64 0, .slice none 0 0] 102)) 102 [.int .i64 (r.kind : Int), .int .i64 (r.pat : Int), strV r.ps, .int .i64 r.pn, .slice r.pa r.pm r.pc]
  rw [size_alloc'] at hP
  have hb1 : Below w.heap.size w ((w.alloc (.cells #[.int .i64 0, .int .i64 0, .string ⟨#[]⟩, .int .i64 0, .slice none 0 0] 102)).alloc (.cells #[.int .i64 (r.kind : Int), .int .i64 (r.pat : Int), strV r.ps, .int .i64 r.pn, .slice r.pa r.pm r.pc] 102)) := bl_alloc (bl_alloc (Below.refl _ _) _) _
  obtain ⟨W1, hW1⟩ : ∃ W1, (w.alloc (.cells #[.int .i64 0, .int .i64 0, .string ⟨#[]⟩, .int .i64 0, .slice none 0 0] 102)).alloc (.cells #[.int .i64 (r.kind : Int), .int .i64 (r.pat : Int), strV r.ps, .int .i64 r.pn, .slice r.pa r.pm r.pc] 102) = W1 := ⟨_, rfl⟩
  have hA1 : Blk W1 w.heap.size 102 [.int .i64 0, .int .i64 0, .string ⟨#[]⟩, .int .i64 0, .slice none 0 0] := hW1 ▸ hA
  have hP1 : Blk W1 (w.heap.size + 1) 102 [.int .i64 (r.kind : Int), .int .i64 (r.pat : Int), strV r.ps, .int .i64 r.pn, .slice r.pa r.pm r.pc] := hW1 ▸ hP
  rw [hW1] at hb1
  have hgw := hB.lt
  have hB1 := hB.below hb1
  obtain ⟨c0, c1, c2, c3, c4, c5, c6, c7, c8, c9⟩ := RAt.facts hB
  have c9' := (RAt.facts hB1).2.2.2.2.2.2.2.2.2
  have p0 : W1.cell? ⟨w.heap.size + 1, 0, none⟩ = some (.int .i64 (r.kind : Int)) := hP1.cell 0
  have p1 : W1.cell? ⟨w.heap.size + 1, 1, none⟩ = some (.int .i64 (r.pat : Int)) := hP1.cell 1
  have p2 : W1.cell? ⟨w.heap.size + 1, 2, none⟩ = some (strV r.ps) := hP1.cell 2
  have hpl := hP1.lt
  have hkeep := Lib.hid (fun w2 (hO : Oly g W1 w2) => (⟨hA1.only hO (by show ¬ w.heap.size = g; omega), hP1.only hO (by show ¬ w.heap.size + 1 = g; omega)⟩ : Blk w2 w.heap.size 102 _ ∧ Blk w2 (w.heap.size + 1) 102 _))
  have hend := Lib.hid (fun w2 (hO : Oly g W1 w2) (v0 v1 v2 v3 v4 : Value) => (⟨((((Blk.set (Blk.set (Blk.set (Blk.set (Blk.set (hA1.only hO (by show ¬ w.heap.size = g; omega)) 0 v0) 1 v1) 2 v2) 3 v3) 4 v4)))),
    (Only.trans (Only.of_below hb1) hO).trans ⟨rfl, rfl, rfl, by simp [World.setCell], fun k hk hn => rfl⟩⟩ : Blk _ w.heap.size 102 [v0, v1, v2, v3, v4] ∧ Oly g w w2))
  have hset := Lib.hid (fun w2 (hO : Oly g W1 w2) (v0 v1 v2 v3 v4 : Value) => (by
    have h1 : Only (fun k => k = w.heap.size) w2 (((((w2.setCell ⟨w.heap.size, 0, none⟩ v0).setCell ⟨w.heap.size, 1, none⟩ v1).setCell ⟨w.heap.size, 2, none⟩ v2).setCell ⟨w.heap.size, 3, none⟩ v3).setCell ⟨w.heap.size, 4, none⟩ v4) :=
      ((((((Only.refl (fun k => k = w.heap.size) w2).setCell (p := ⟨w.heap.size, 0, none⟩) rfl v0).setCell (p := ⟨w.heap.size, 1, none⟩) rfl v1).setCell (p := ⟨w.heap.size, 2, none⟩) rfl v2).setCell (p := ⟨w.heap.size, 3, none⟩) rfl v3).setCell (p := ⟨w.heap.size, 4, none⟩) rfl v4)
    exact ⟨h1, only_new (Only.trans (Only.of_below hb1) hO) h1⟩ : Only (fun k => k = w.heap.size) w2 (((((w2.setCell ⟨w.heap.size, 0, none⟩ v0).setCell ⟨w.heap.size, 1, none⟩ v1).setCell ⟨w.heap.size, 2, none⟩ v2).setCell ⟨w.heap.size, 3, none⟩ v3).setCell ⟨w.heap.size, 4, none⟩ v4) ∧ Oly g w (((((w2.setCell ⟨w.heap.size, 0, none⟩ v0).setCell ⟨w.heap.size, 1, none⟩ v1).setCell ⟨w.heap.size, 2, none⟩ v2).setCell ⟨w.heap.size, 3, none⟩ v3).setCell ⟨w.heap.size, 4, none⟩ v4)))
  have hfl := rfail_ok hB1 hre r.pat 9
  have hfl : Calls Tryz.prog 36 #[.pointer (some ⟨g, 0, none⟩), .int .i64 (r.pat : Int), .int .i64 9] W1 fun e w' => e = .returned (.tuple #[]) ∧ Blk w' g 104 (({ r with bad := (p.pc.at_ : Int), e := 9 } : Rd).cells s) ∧ Oly g W1 w' := by rw [hr3] at hfl ⊢; exact hfl
  replace hfl := Lib.hid hfl
  rw [hre] at c9'
  replace hG := Lib.hid hG
  replace hq := Lib.hid hq
  replace hr3 := Lib.hid hr3
  replace hr5 := Lib.hid hr5
  replace hr6 := Lib.hid hr6
  replace hre := Lib.hid hre
  replace hrd := Lib.hid hrd
  replace hr := Lib.hid hr
  have hin1 := Lib.hid (by have := in_at (rs p.pc) l ln hln W1 b c (hl.below hb1) hl2; rw [hin, ← hr4] at this; exact this : Calls Tryz.prog 39 #[strV r.ps, .slice (some ⟨b, 0, none⟩) ln c] W1 fun e w' => e = .returned (.bool false) ∧ W1 = w')
  have q0 : ((r.kind : Int) != (k : Int)) = false := by rw [hr2, hk]; simp
  have q1 : (0 : Int) < (ln : Int) := by omega
  replace hr2 := Lib.hid hr2
  replace hr4 := Lib.hid hr4
  clear hk hin hl hln
  replace hb1 := Lib.hid hb1
  replace hB1 := Lib.hid hB1
  replace hW1 := Lib.hid hW1
  clear hA hP hA1 hP1 hB hend
  go_enter Tryz.func93, Tryz.ntmps93
  go_upto_region 2 with fail
  rw [hW1.out]
  go_wp2_with (first
    | (go_at_call 39; (with_reducible refine hin1.out.mono ?_); rintro e w4 ⟨rfl, rfl⟩)
    | (go_at_call 36; (with_reducible refine hfl.out.mono ?_); rintro e w2 ⟨rfl, hB2, hOx⟩; replace hB2 := Lib.hid (⟨_, hB2, hrd.out, rfl, rfl, by decide⟩ : Bad w2 g s p.deep p.pc.at_ 9); have hn2 := Lib.hid (rnext_bad hB2.out))
    | (go_at_call 34; refine hn2.out.mono ?_; rintro e w3 ⟨rfl, rfl⟩; have k1 := (hkeep.out _ hOx).1; have k2 := (hkeep.out _ hOx).2; have x0 := k1.cell 0; have x1 := k1.cell 1; have x2 := k1.cell 2; have x3 := k1.cell 3; have x4 := k1.cell 4; have y0 := k2.cell 0; have y1 := k2.cell 1; have y2 := k2.cell 2; have y3 := k2.cell 3; have y4 := k2.cell 4; simp only [List.getElem?_cons_zero, List.getElem?_cons_succ] at x0 x1 x2 x3 x4 y0 y1 y2 y3 y4; have z0 := k1.free 0; have z1 := k1.free 1; have z2 := k1.free 2; have z3 := k1.free 3; have z4 := k1.free 4; have kl := k1.lt; have kl2 := k2.lt; clear k1 k2))
  obtain ⟨o1, o2⟩ := hset.out _ hOx (.int .i64 (r.kind : Int)) (.int .i64 (r.pat : Int)) (strV r.ps) (.int .i64 r.pn) (.slice r.pa r.pm r.pc)
  have hF := ((((Blk.set (Blk.set (Blk.set (Blk.set (Blk.set (hkeep.out _ hOx).1 0 (.int .i64 (r.kind : Int))) 1 (.int .i64 (r.pat : Int))) 2 (strV r.ps)) 3 (.int .i64 r.pn)) 4 (.slice r.pa r.pm r.pc)))))
  have e0 := hF.cell 0
  have e1 := hF.cell 1
  have e2 := hF.cell 2
  have e3 := hF.cell 3
  have e4 := hF.cell 4
  simp only [List.set_cons_zero, List.set_cons_succ, List.getElem?_cons_zero, List.getElem?_cons_succ] at e0 e1 e2 e3 e4
  clear hF
  generalize World.setCell (World.setCell (World.setCell (World.setCell (World.setCell _ _ _) _ _) _ _) _ _) _ _ = W9 at *
  refine bodyPost_ret (v := .agg #[.int .i64 (r.kind : Int), .int .i64 (r.pat : Int), strV r.ps, .int .i64 r.pn, .slice r.pa r.pm r.pc]) (by simp [results, Tryz.results93, go_sem, e0, e1, e2, e3, e4]) rfl ?_
  refine ⟨o2, ?_, _, rfl, _, _, _, _, _, _, _, rfl⟩
  obtain ⟨r2, h1, h2⟩ := hB2.out
  exact ⟨r2, Blk.only h1 o1 (by show ¬ g = w.heap.size; omega), h2⟩
set_option maxHeartbeats 4000000 in
set_option maxRecDepth 100000 in
theorem must_bad (s : List UInt8) (d a : Nat) (x : Int) (w : World) (g : Nat) (h : Bad w g s d a x) (k : Nat) (lv : Value) :
    Calls Tryz.prog 93 #[.pointer (some ⟨g, 0, none⟩), .int .i64 (k : Int), lv] w fun e w' => Oly g w w' ∧ Bad w' g s d a x ∧ ∃ v, e = .returned v ∧ SomeP v := by
  obtain ⟨r, hB, hrd, hrb, hre, hx⟩ := h
  have hbad := Lib.hid (fun w' (hb : Below w.heap.size w w') => (⟨r, hB.below hb, hrd, hrb, hre, hx⟩ : Bad w' g s d a x))
  have hA := (Blk.new w 102 [.int .i64 0, .int .i64 0, .string ⟨#[]⟩, .int .i64 0, .slice none 0 0]).alloc (.cells #[.int .i64 (r.kind : Int), .int .i64 (r.pat : Int), strV r.ps, .int .i64 r.pn, .slice r.pa r.pm r.pc] 102)
  have hP := Blk.new (w.alloc (.cells #[.int .i64 0, .int .i64 0, .string ⟨#[]⟩, .int .i64 0, .slice none 0 0] 102)) 102 [.int .i64 (r.kind : Int), .int .i64 (r.pat : Int), strV r.ps, .int .i64 r.pn, .slice r.pa r.pm r.pc]
  rw [size_alloc'] at hP
  have hb1 : Below w.heap.size w ((w.alloc (.cells #[.int .i64 0, .int .i64 0, .string ⟨#[]⟩, .int .i64 0, .slice none 0 0] 102)).alloc (.cells #[.int .i64 (r.kind : Int), .int .i64 (r.pat : Int), strV r.ps, .int .i64 r.pn, .slice r.pa r.pm r.pc] 102)) := bl_alloc (bl_alloc (Below.refl _ _) _) _
  obtain ⟨W1, hW1⟩ : ∃ W1, (w.alloc (.cells #[.int .i64 0, .int .i64 0, .string ⟨#[]⟩, .int .i64 0, .slice none 0 0] 102)).alloc (.cells #[.int .i64 (r.kind : Int), .int .i64 (r.pat : Int), strV r.ps, .int .i64 r.pn, .slice r.pa r.pm r.pc] 102) = W1 := ⟨_, rfl⟩
  have hA1 : Blk W1 w.heap.size 102 [.int .i64 0, .int .i64 0, .string ⟨#[]⟩, .int .i64 0, .slice none 0 0] := hW1 ▸ hA
  have hP1 : Blk W1 (w.heap.size + 1) 102 [.int .i64 (r.kind : Int), .int .i64 (r.pat : Int), strV r.ps, .int .i64 r.pn, .slice r.pa r.pm r.pc] := hW1 ▸ hP
  rw [hW1] at hb1
  have hgw := hB.lt
  have hB1 := hB.below hb1
  obtain ⟨c0, c1, c2, c3, c4, c5, c6, c7, c8, c9⟩ := RAt.facts hB
  have c9' := (RAt.facts hB1).2.2.2.2.2.2.2.2.2
  have p0 : W1.cell? ⟨w.heap.size + 1, 0, none⟩ = some (.int .i64 (r.kind : Int)) := hP1.cell 0
  have p1 : W1.cell? ⟨w.heap.size + 1, 1, none⟩ = some (.int .i64 (r.pat : Int)) := hP1.cell 1
  have p2 : W1.cell? ⟨w.heap.size + 1, 2, none⟩ = some (strV r.ps) := hP1.cell 2
  have hpl := hP1.lt
  have hkeep := Lib.hid (fun w2 (hO : Oly g W1 w2) => (⟨hA1.only hO (by show ¬ w.heap.size = g; omega), hP1.only hO (by show ¬ w.heap.size + 1 = g; omega)⟩ : Blk w2 w.heap.size 102 _ ∧ Blk w2 (w.heap.size + 1) 102 _))
  have hend := Lib.hid (fun w2 (hO : Oly g W1 w2) (v0 v1 v2 v3 v4 : Value) => (⟨((((Blk.set (Blk.set (Blk.set (Blk.set (Blk.set (hA1.only hO (by show ¬ w.heap.size = g; omega)) 0 v0) 1 v1) 2 v2) 3 v3) 4 v4)))),
    (Only.trans (Only.of_below hb1) hO).trans ⟨rfl, rfl, rfl, by simp [World.setCell], fun k hk hn => rfl⟩⟩ : Blk _ w.heap.size 102 [v0, v1, v2, v3, v4] ∧ Oly g w w2))
  have hset := Lib.hid (fun w2 (hO : Oly g W1 w2) (v0 v1 v2 v3 v4 : Value) => (by
    have h1 : Only (fun k => k = w.heap.size) w2 (((((w2.setCell ⟨w.heap.size, 0, none⟩ v0).setCell ⟨w.heap.size, 1, none⟩ v1).setCell ⟨w.heap.size, 2, none⟩ v2).setCell ⟨w.heap.size, 3, none⟩ v3).setCell ⟨w.heap.size, 4, none⟩ v4) :=
      ((((((Only.refl (fun k => k = w.heap.size) w2).setCell (p := ⟨w.heap.size, 0, none⟩) rfl v0).setCell (p := ⟨w.heap.size, 1, none⟩) rfl v1).setCell (p := ⟨w.heap.size, 2, none⟩) rfl v2).setCell (p := ⟨w.heap.size, 3, none⟩) rfl v3).setCell (p := ⟨w.heap.size, 4, none⟩) rfl v4)
    exact ⟨h1, only_new (Only.trans (Only.of_below hb1) hO) h1⟩ : Only (fun k => k = w.heap.size) w2 (((((w2.setCell ⟨w.heap.size, 0, none⟩ v0).setCell ⟨w.heap.size, 1, none⟩ v1).setCell ⟨w.heap.size, 2, none⟩ v2).setCell ⟨w.heap.size, 3, none⟩ v3).setCell ⟨w.heap.size, 4, none⟩ v4) ∧ Oly g w (((((w2.setCell ⟨w.heap.size, 0, none⟩ v0).setCell ⟨w.heap.size, 1, none⟩ v1).setCell ⟨w.heap.size, 2, none⟩ v2).setCell ⟨w.heap.size, 3, none⟩ v3).setCell ⟨w.heap.size, 4, none⟩ v4)))
  have hn2 := Lib.hid (rnext_bad (hbad.out W1 hb1))
  have q0 : (r.e == 0) = false := by simp only [beq_eq_false_iff_ne, ne_eq]; rw [hre]; exact hx
  replace hre := Lib.hid hre
  replace hrd := Lib.hid hrd
  replace hrb := Lib.hid hrb
  have hOx : Oly g W1 W1 := Only.refl _ _
  have hB2 := Lib.hid (hbad.out W1 hb1)
  replace hb1 := Lib.hid hb1
  replace hB1 := Lib.hid hB1
  replace hW1 := Lib.hid hW1
  clear hA hP hA1 hP1 hB hend
  go_enter Tryz.func93, Tryz.ntmps93
  go_upto_region 2 with fail
  rw [hW1.out]
  go_wp2_with (first
    | (go_at_call 34; refine hn2.out.mono ?_; rintro e w3 ⟨rfl, rfl⟩; have k1 := (hkeep.out _ hOx).1; have k2 := (hkeep.out _ hOx).2; have x0 := k1.cell 0; have x1 := k1.cell 1; have x2 := k1.cell 2; have x3 := k1.cell 3; have x4 := k1.cell 4; have y0 := k2.cell 0; have y1 := k2.cell 1; have y2 := k2.cell 2; have y3 := k2.cell 3; have y4 := k2.cell 4; simp only [List.getElem?_cons_zero, List.getElem?_cons_succ] at x0 x1 x2 x3 x4 y0 y1 y2 y3 y4; have z0 := k1.free 0; have z1 := k1.free 1; have z2 := k1.free 2; have z3 := k1.free 3; have z4 := k1.free 4; have kl := k1.lt; have kl2 := k2.lt; clear k1 k2))
  obtain ⟨o1, o2⟩ := hset.out _ hOx (.int .i64 (r.kind : Int)) (.int .i64 (r.pat : Int)) (strV r.ps) (.int .i64 r.pn) (.slice r.pa r.pm r.pc)
  have hF := ((((Blk.set (Blk.set (Blk.set (Blk.set (Blk.set (hkeep.out _ hOx).1 0 (.int .i64 (r.kind : Int))) 1 (.int .i64 (r.pat : Int))) 2 (strV r.ps)) 3 (.int .i64 r.pn)) 4 (.slice r.pa r.pm r.pc)))))
  have e0 := hF.cell 0
  have e1 := hF.cell 1
  have e2 := hF.cell 2
  have e3 := hF.cell 3
  have e4 := hF.cell 4
  simp only [List.set_cons_zero, List.set_cons_succ, List.getElem?_cons_zero, List.getElem?_cons_succ] at e0 e1 e2 e3 e4
  clear hF
  generalize World.setCell (World.setCell (World.setCell (World.setCell (World.setCell _ _ _) _ _) _ _) _ _) _ _ = W9 at *
  refine bodyPost_ret (v := .agg #[.int .i64 (r.kind : Int), .int .i64 (r.pat : Int), strV r.ps, .int .i64 r.pn, .slice r.pa r.pm r.pc]) (by simp [results, Tryz.results93, go_sem, e0, e1, e2, e3, e4]) rfl ?_
  refine ⟨o2, ?_, _, rfl, _, _, _, _, _, _, _, rfl⟩
  obtain ⟨r2, h1, h2⟩ := hB2.out
  exact ⟨r2, Blk.only h1 o1 (by show ¬ g = w.heap.size; omega), h2⟩
end Go.Proofs.YtcjcflmnghhbaaaGreat
