/-
  cond.parser: is, take, deeper; of chapter 27.
  Conditions: as each theorem states them.
-/
import Derived.Test.YtcjcflmnghhbaaaGreatCondX
namespace Go.Proofs.YtcjcflmnghhbaaaGreat
open Go.RowKit
set_option linter.unusedVariables false
set_option linter.unusedSimpArgs false
open CM (Sv Pc Ps)
/-- what a step of the parser answers -/
def Out {α : Type} (s : List UInt8) (g : Nat) (w : World) (R : Except CM.Er (α × Ps)) (V : α → Value → World → Prop) (e : Ending) (w' : World) : Prop :=
  match R with
  | .error (a, x) => e = .panicked [broken (a : Int) x] ∧ Oly g w w'
  | .ok (y, q) => ∃ v, e = .returned v ∧ V y v w' ∧ PsAt w' g s q ∧ Oly g w w'
theorem Out.ok {α : Type} {s : List UInt8} {g : Nat} {w w' : World} {R : Except CM.Er (α × Ps)} {V : α → Value → World → Prop} {y : α} {q : Ps} {v : Value} (h : R = .ok (y, q)) (hV : V y v w') (hP : PsAt w' g s q) (hO : Oly g w w') : Out s g w R V (.returned v) w' := by
  subst h; exact ⟨v, rfl, hV, hP, hO⟩
theorem Out.err {α : Type} {s : List UInt8} {g a : Nat} {x : Int} {w w' : World} {R : Except CM.Er (α × Ps)} {V : α → Value → World → Prop} (h : R = .error (a, x)) (hO : Oly g w w') : Out s g w R V (.panicked [broken (a : Int) x]) w' := by
  subst h; exact ⟨rfl, hO⟩
/-- a text that is parsed, and a parser that stands in it -/
structure Fit (s : List UInt8) (p : Ps) (w : World) (g : Nat) : Prop where
  len : s.length ≤ 4096
  le : p.at_ ≤ s.length
  at_ : PsAt w g s p
theorem next_ok {s : List UInt8} {p q : Ps} {w : World} {g : Nat} (h : Fit s p w g) (hn : p.next s = .ok q) : Calls Tryz.prog 31 #[.pointer (some ⟨g, 0, none⟩)] w fun e w' => e = .returned (.tuple #[]) ∧ PsAt w' g s q ∧ Oly g w w' :=
  (next_any s h.len p h.le w g h.at_).mono fun e w' he => by unfold NextIs at he; rw [hn] at he; exact he
theorem next_err {s : List UInt8} {p : Ps} {w : World} {g a : Nat} {x : Int} (h : Fit s p w g) (hn : p.next s = .error (a, x)) : Calls Tryz.prog 31 #[.pointer (some ⟨g, 0, none⟩)] w fun e w' => e = .panicked [broken (a : Int) x] ∧ Oly g w w' :=
  (next_any s h.len p h.le w g h.at_).mono fun e w' he => by unfold NextIs at he; rw [hn] at he; exact he
theorem not_is {p : Ps} {k : Nat} {wd : List UInt8} (h : p.pc.is k wd = false) : p.pc.kind ≠ k ∨ p.pc.s ≠ wd := by
  unfold Pc.is at h
  by_cases hk : p.pc.kind = k
  · right; intro e; rw [hk, e] at h; simp at h
  · exact .inl hk
set_option maxHeartbeats 4000000 in
theorem is_no {s : List UInt8} {p : Ps} {k : Nat} {wd : List UInt8} {w : World} {g : Nat} (h : Fit s p w g) (hi : p.pc.is k wd = false) : Calls Tryz.prog 51 #[.pointer (some ⟨g, 0, none⟩), .int .i64 (k : Int), strV wd] w fun e w' => e = .returned (.bool false) ∧ w = w' := by
  obtain ⟨c0, c1, c2, c3, c4, c5, c6⟩ := h.at_.facts
  by_cases hk : p.pc.kind = k
  · have hs : p.pc.s ≠ wd := (not_is hi).elim (fun h => absurd hk h) id
    have q0 : ((p.pc.kind : Int) != (k : Int)) = false := by simp [hk]
    have q1 : (p.pc.s == wd) = false := by simpa using hs
    clear hk hs hi
    generalize p.pc.kind = kd at *
    generalize p.pc.s = ps at *
    go_enter Tryz.func51, Tryz.ntmps51
    go_wp2_with fail
    all_goals go_ret
    all_goals exact ⟨rfl, rfl⟩
  · have q0 : ((p.pc.kind : Int) != (k : Int)) = true := by simp; omega
    clear hk hi
    generalize p.pc.kind = kd at *
    go_enter Tryz.func51, Tryz.ntmps51
    go_wp2_with fail
    all_goals go_ret
    all_goals exact ⟨rfl, rfl⟩
set_option maxHeartbeats 4000000 in
theorem is_ok {s : List UInt8} {p q : Ps} {k : Nat} {wd : List UInt8} {w : World} {g : Nat} (h : Fit s p w g) (hi : p.pc.is k wd = true) (hn : p.next s = .ok q) : Calls Tryz.prog 51 #[.pointer (some ⟨g, 0, none⟩), .int .i64 (k : Int), strV wd] w fun e w' => e = .returned (.bool true) ∧ PsAt w' g s q ∧ Oly g w w' := by
  obtain ⟨c0, c1, c2, c3, c4, c5, c6⟩ := h.at_.facts
  obtain ⟨hk, hs⟩ := CM.is_kind hi
  have q0 : ((p.pc.kind : Int) != (k : Int)) = false := by simp [hk]
  have q1 : (p.pc.s == wd) = true := by simpa using hs
  have hnx := Lib.hid (next_ok h hn)
  clear hk hs hi hn h
  generalize p.pc.kind = kd at *
  generalize p.pc.s = ps at *
  go_enter Tryz.func51, Tryz.ntmps51
  go_wp2_with (go_at_call 31; refine hnx.out.mono ?_; rintro e w2 ⟨rfl, hP, hO⟩)
  all_goals go_ret
  all_goals exact ⟨rfl, hP, hO⟩
set_option maxHeartbeats 4000000 in
theorem is_err {s : List UInt8} {p : Ps} {k a : Nat} {x : Int} {wd : List UInt8} {w : World} {g : Nat} (h : Fit s p w g) (hi : p.pc.is k wd = true) (hn : p.next s = .error (a, x)) : Calls Tryz.prog 51 #[.pointer (some ⟨g, 0, none⟩), .int .i64 (k : Int), strV wd] w fun e w' => e = .panicked [broken (a : Int) x] ∧ Oly g w w' := by
  obtain ⟨c0, c1, c2, c3, c4, c5, c6⟩ := h.at_.facts
  obtain ⟨hk, hs⟩ := CM.is_kind hi
  have q0 : ((p.pc.kind : Int) != (k : Int)) = false := by simp [hk]
  have q1 : (p.pc.s == wd) = true := by simpa using hs
  have hnx := Lib.hid (next_err h hn)
  clear hk hs hi hn h
  generalize p.pc.kind = kd at *
  generalize p.pc.s = ps at *
  go_enter Tryz.func51, Tryz.ntmps51
  go_wp2_with (go_at_call 31; refine hnx.out.mono ?_; rintro e w2 ⟨rfl, hO⟩)
  all_goals exact ⟨rfl, rfl, hO⟩
end Go.Proofs.YtcjcflmnghhbaaaGreat
/-
  cond.parser: take, deeper; of chapter 27.
  Conditions: as each theorem states them.
-/
namespace Go.Proofs.YtcjcflmnghhbaaaGreat
open Go.RowKit
set_option linter.unusedVariables false
set_option linter.unusedSimpArgs false
open CM (Sv Pc Ps)
def pcV (x : Pc) : Value := .agg #[.int .i64 (x.kind : Int), .int .i64 (x.at_ : Int), .int .i64 x.n, strV x.s]
theorem Out.yes {α : Type} {P : Program} {f : FuncId} {args : Array Value} {s : List UInt8} {g : Nat} {w : World} {R : Except CM.Er (α × Ps)} {V : α → Value → World → Prop} {y : α} {q : Ps} (hc : Calls P f args w (Out s g w R V)) (h : R = .ok (y, q)) :
    Calls P f args w fun e w' => ∃ v, e = .returned v ∧ V y v w' ∧ PsAt w' g s q ∧ Oly g w w' := by
  subst h; exact hc
theorem Out.no {α : Type} {P : Program} {f : FuncId} {args : Array Value} {s : List UInt8} {g a : Nat} {x : Int} {w : World} {R : Except CM.Er (α × Ps)} {V : α → Value → World → Prop} (hc : Calls P f args w (Out s g w R V)) (h : R = .error (a, x)) :
    Calls P f args w fun e w' => e = .panicked [broken (a : Int) x] ∧ Oly g w w' := by
  subst h; exact hc
theorem Fit.alloc {s : List UInt8} {p : Ps} {w : World} {g : Nat} (h : Fit s p w g) (o : Obj) : Fit s p (w.alloc o) g := ⟨h.len, h.le, Blk.alloc h.at_ o⟩
/-- a store into a block that is new -/
theorem oly_new {g b : Nat} {w w' : World} (h : Oly g w w') (hb : w.heap.size ≤ b) (j : Nat) (v : Value) : Oly g w (w'.setCell ⟨b, j, none⟩ v) :=
  ⟨h.os, h.tape, h.output, by simpa [World.setCell] using h.size, fun k hk hn => (Below.heap_setCell _ _ _ _ (fun e => by simp only at e; omega)).trans (h.block k hk hn)⟩
theorem infoPc : (Tryz.prog.info? 92).map (fun i => (i.zero, i.size, i.bytes)) = some (some (.agg #[.int .i64 0, .int .i64 0, .int .i64 0, .string ⟨#[]⟩]), 4, 40) := by kernel_rfl
set_option maxHeartbeats 4000000 in
set_option maxRecDepth 100000 in
theorem take_any {s : List UInt8} {p : Ps} {k : Nat} {w : World} {g : Nat} (h : Fit s p w g) : Calls Tryz.prog 96 #[.pointer (some ⟨g, 0, none⟩), .int .i64 (k : Int)] w (Out s g w (p.take s k) (fun x v _ => v = pcV x)) := by
  obtain ⟨c0, c1, c2, c3, c4, c5, c6⟩ := h.at_.facts
  have hgl := h.at_.lt
  by_cases hk : p.pc.kind = k
  · have q0 : ((p.pc.kind : Int) != (k : Int)) = false := by simp [hk]
    obtain ⟨W1, hW1⟩ : ∃ W1, w.alloc (.cells #[.int .i64 0, .int .i64 0, .int .i64 0, .string ⟨#[]⟩] 92) = W1 := ⟨_, rfl⟩
    obtain ⟨W2, hW2⟩ : ∃ W2, W1.alloc (.cells #[.int .i64 (k : Int), .int .i64 (p.pc.at_ : Int), .int .i64 p.pc.n, .string ⟨p.pc.s.toArray⟩] 92) = W2 := ⟨_, rfl⟩
    have hF : Fit s p W2 g := by rw [← hW2, ← hW1]; exact (h.alloc _).alloc _
    have hO : Oly g w W2 := by rw [← hW2, ← hW1]; exact ((Only.refl _ w).alloc _).alloc _
    have hB1 : Blk W2 w.heap.size 92 [.int .i64 0, .int .i64 0, .int .i64 0, .string ⟨#[]⟩] := by rw [← hW2, ← hW1]; exact (Blk.new w _ _).alloc _
    have hB2 : Blk W2 (w.heap.size + 1) 92 [.int .i64 (k : Int), .int .i64 (p.pc.at_ : Int), .int .i64 p.pc.n, .string ⟨p.pc.s.toArray⟩] := by
      have e : w.heap.size + 1 = W1.heap.size := by rw [← hW1]; simp
      rw [e, ← hW2]; exact Blk.new W1 _ _
    have hpv : pcV p.pc = .agg #[.int .i64 (k : Int), .int .i64 (p.pc.at_ : Int), .int .i64 p.pc.n, .string ⟨p.pc.s.toArray⟩] := by unfold pcV; rw [hk]
    have hne1 : w.heap.size ≠ g := by omega
    have hne2 : w.heap.size + 1 ≠ g := by omega
    have hfr := Lib.hid (fun (w3 : World) (ho : Oly g W2 w3) => (Blk.only hB1 ho hne1 : Blk w3 w.heap.size _ _))
    have hfs := Lib.hid (fun (w3 : World) (ho : Oly g W2 w3) => (Blk.only hB2 ho hne2 : Blk w3 (w.heap.size + 1) _ _))
    replace hW1 := Lib.hid hW1
    replace hW2 := Lib.hid hW2
    replace hO := Lib.hid hO
    replace hpv := Lib.hid hpv
    clear hB1 hB2
    cases hn : p.next s with
    | error e =>
      obtain ⟨a, x⟩ := e
      have hnx := Lib.hid (next_err hF hn)
      have hR : p.take s k = .error (a, x) := by unfold Ps.take; rw [if_pos hk, hn]
      rw [hR]
      clear h hn hF hR
      go_enter Tryz.func96, Tryz.ntmps96
      go_wp2_with (go_at_call 31; rw [hW1.out, hW2.out]; refine hnx.out.mono ?_; rintro e w3 ⟨rfl, hO3⟩)
      all_goals exact ⟨rfl, Out.err rfl (Only.trans hO.out hO3)⟩
    | ok q =>
      have hnx := Lib.hid (next_ok hF hn)
      have hR : p.take s k = .ok (p.pc, q) := by unfold Ps.take; rw [if_pos hk, hn]
      rw [hR]
      clear h hn hF hR
      go_enter Tryz.func96, Tryz.ntmps96
      go_wp2_with (go_at_call 31; rw [hW1.out, hW2.out]; refine hnx.out.mono ?_; rintro e w3 ⟨rfl, hP3, hO3⟩; have b1 := hfr.out _ hO3; have b2 := hfs.out _ hO3; obtain ⟨d0, d1, d2, d3⟩ : w3.cell? ⟨w.heap.size + 1, 0, none⟩ = some (.int .i64 (k : Int)) ∧ w3.cell? ⟨w.heap.size + 1, 1, none⟩ = some (.int .i64 (p.pc.at_ : Int)) ∧ w3.cell? ⟨w.heap.size + 1, 2, none⟩ = some (.int .i64 p.pc.n) ∧ w3.cell? ⟨w.heap.size + 1, 3, none⟩ = some (.string ⟨p.pc.s.toArray⟩) := ⟨b2.cell 0, b2.cell 1, b2.cell 2, b2.cell 3⟩; obtain ⟨e0, e1, e2, e3⟩ : w3.frozen? ⟨w.heap.size, 0, none⟩ = false ∧ w3.frozen? ⟨w.heap.size, 1, none⟩ = false ∧ w3.frozen? ⟨w.heap.size, 2, none⟩ = false ∧ w3.frozen? ⟨w.heap.size, 3, none⟩ = false := ⟨b1.free 0, b1.free 1, b1.free 2, b1.free 3⟩; obtain ⟨f0, f1, f2, f3⟩ : w3.cell? ⟨w.heap.size, 0, none⟩ = some (.int .i64 0) ∧ w3.cell? ⟨w.heap.size, 1, none⟩ = some (.int .i64 0) ∧ w3.cell? ⟨w.heap.size, 2, none⟩ = some (.int .i64 0) ∧ w3.cell? ⟨w.heap.size, 3, none⟩ = some (.string ⟨#[]⟩) := ⟨b1.cell 0, b1.cell 1, b1.cell 2, b1.cell 3⟩; have hl1 := b1.lt; have hl2 := b2.lt; replace hP3 := Lib.hid hP3; replace hO3 := Lib.hid hO3; replace b1 := Lib.hid b1; clear b2)
      have bY := (((b1.out.set 0 (.int .i64 (k : Int))).set 1 (.int .i64 (p.pc.at_ : Int))).set 2 (.int .i64 p.pc.n)).set 3 (.string ⟨p.pc.s.toArray⟩)
      have pY : PsAt ((((w3.setCell ⟨w.heap.size, 0, none⟩ (.int .i64 (k : Int))).setCell ⟨w.heap.size, 1, none⟩ (.int .i64 (p.pc.at_ : Int))).setCell ⟨w.heap.size, 2, none⟩ (.int .i64 p.pc.n)).setCell ⟨w.heap.size, 3, none⟩ (.string ⟨p.pc.s.toArray⟩)) g s q :=
        (((Blk.set_other hP3.out (p := ⟨w.heap.size, 0, none⟩) hne1 _).set_other (p := ⟨w.heap.size, 1, none⟩) hne1 _).set_other (p := ⟨w.heap.size, 2, none⟩) hne1 _).set_other (p := ⟨w.heap.size, 3, none⟩) hne1 _
      have oY : Oly g w ((((w3.setCell ⟨w.heap.size, 0, none⟩ (.int .i64 (k : Int))).setCell ⟨w.heap.size, 1, none⟩ (.int .i64 (p.pc.at_ : Int))).setCell ⟨w.heap.size, 2, none⟩ (.int .i64 p.pc.n)).setCell ⟨w.heap.size, 3, none⟩ (.string ⟨p.pc.s.toArray⟩)) :=
        oly_new (oly_new (oly_new (oly_new (Only.trans hO.out hO3.out) (Nat.le_refl _) _ _) (Nat.le_refl _) _ _) (Nat.le_refl _) _ _) (Nat.le_refl _) _ _
      obtain ⟨y0, y1, y2, y3⟩ : _ ∧ _ ∧ _ ∧ _ := ⟨bY.cell 0, bY.cell 1, bY.cell 2, bY.cell 3⟩
      generalize ((((w3.setCell ⟨w.heap.size, 0, none⟩ (.int .i64 (k : Int))).setCell ⟨w.heap.size, 1, none⟩ (.int .i64 (p.pc.at_ : Int))).setCell ⟨w.heap.size, 2, none⟩ (.int .i64 p.pc.n)).setCell ⟨w.heap.size, 3, none⟩ (.string ⟨p.pc.s.toArray⟩)) = Y at *
      simp only [List.set_cons_zero, List.set_cons_succ, List.getElem?_cons_zero, List.getElem?_cons_succ] at y0 y1 y2 y3
      exact bodyPost_ret (v := .agg #[.int .i64 (k : Int), .int .i64 (p.pc.at_ : Int), .int .i64 p.pc.n, .string ⟨p.pc.s.toArray⟩]) (by simp [results, Tryz.results96, go_sem, y0, y1, y2, y3]) rfl (Out.ok rfl hpv.out.symm pY oY)
  · have q0 : ((p.pc.kind : Int) != (k : Int)) = true := by simp; omega
    have hR : p.take s k = .error (p.pc.at_, 9) := by unfold Ps.take; rw [if_neg hk]
    rw [hR]
    have hfl := Lib.hid (fun W => fail_any (p.pc.at_ : Int) 9 W)
    clear hR h
    go_enter Tryz.func96, Tryz.ntmps96
    go_wp2_with (go_at_call 46; refine (hfl.out _).mono ?_; rintro e w5 ⟨rfl, hw5⟩; subst hw5)
    all_goals exact ⟨rfl, Out.err rfl (((Only.refl _ w).alloc _).alloc _)⟩
set_option maxHeartbeats 4000000 in
set_option maxRecDepth 100000 in
theorem deeper_ok {s : List UInt8} {p q : Ps} {w : World} {g : Nat} (h : Fit s p w g) (hd : p.deep ≤ 20) (he : CM.deeperS s p = .ok q) : Calls Tryz.prog 87 #[.pointer (some ⟨g, 0, none⟩)] w fun e w' => e = .returned (.tuple #[]) ∧ PsAt w' g s q ∧ Oly g w w' := by
  obtain ⟨c0, c1, c2, c3, c4, c5, c6⟩ := h.at_.facts
  obtain ⟨f0, f1, f2, f3, f4, f5, f6⟩ := h.at_.frees
  have hgl := h.at_.lt
  unfold CM.deeperS at he
  split at he
  · cases he
  · rename_i h20
    have q0 : ((p.deep : Int) == 20) = false := by simp; omega
    have hF : Fit s ⟨p.pc, p.at_, p.deep + 1⟩ (w.setCell ⟨g, 6, none⟩ (.int .i64 ((p.deep : Int) + 1))) g := ⟨h.len, h.le, h.at_.dp (p.deep + 1)⟩
    have hnx := Lib.hid (next_ok hF he)
    have hO := Lib.hid (Oly.set (Only.refl _ w : Oly g w w) 6 (.int .i64 ((p.deep : Int) + 1)))
    clear h he hF
    go_enter Tryz.func87, Tryz.ntmps87
    go_wp2_with (go_at_call 31; refine hnx.out.mono ?_; rintro e w3 ⟨rfl, hP3, hO3⟩)
    all_goals (first | go_end0 | refine bodyPost_ret (results_none rfl _ _ _) rfl ?_)
    all_goals exact ⟨rfl, hP3, Only.trans hO.out hO3⟩
set_option maxHeartbeats 4000000 in
set_option maxRecDepth 100000 in
theorem deeper_err {s : List UInt8} {p : Ps} {w : World} {g a : Nat} {x : Int} (h : Fit s p w g) (hd : p.deep ≤ 20) (he : CM.deeperS s p = .error (a, x)) : Calls Tryz.prog 87 #[.pointer (some ⟨g, 0, none⟩)] w fun e w' => e = .panicked [broken (a : Int) x] ∧ Oly g w w' := by
  obtain ⟨c0, c1, c2, c3, c4, c5, c6⟩ := h.at_.facts
  obtain ⟨f0, f1, f2, f3, f4, f5, f6⟩ := h.at_.frees
  have hgl := h.at_.lt
  unfold CM.deeperS at he
  split at he
  · rename_i h20
    have q0 : ((p.deep : Int) == 20) = true := by rw [h20]; rfl
    simp only [Except.error.injEq, Prod.mk.injEq] at he
    obtain ⟨rfl, rfl⟩ := he
    have hfl := Lib.hid (fun W => fail_any (p.pc.at_ : Int) 7 W)
    clear h
    go_enter Tryz.func87, Tryz.ntmps87
    go_wp2_with (go_at_call 46; refine (hfl.out _).mono ?_; rintro e w5 ⟨rfl, hw5⟩; subst hw5)
    all_goals exact ⟨rfl, rfl, Only.refl _ _⟩
  · rename_i h20
    have q0 : ((p.deep : Int) == 20) = false := by simp; omega
    have hF : Fit s ⟨p.pc, p.at_, p.deep + 1⟩ (w.setCell ⟨g, 6, none⟩ (.int .i64 ((p.deep : Int) + 1))) g := ⟨h.len, h.le, h.at_.dp (p.deep + 1)⟩
    have hnx := Lib.hid (next_err hF he)
    have hO := Lib.hid (Oly.set (Only.refl _ w : Oly g w w) 6 (.int .i64 ((p.deep : Int) + 1)))
    clear h he hF
    go_enter Tryz.func87, Tryz.ntmps87
    go_wp2_with (go_at_call 31; refine hnx.out.mono ?_; rintro e w3 ⟨rfl, hO3⟩)
    all_goals exact ⟨rfl, rfl, Only.trans hO.out hO3⟩
end Go.Proofs.YtcjcflmnghhbaaaGreat
