/-
  cond.parser: number, text, phase; of chapter 27.
  Conditions: as each theorem states them.
-/
import Derived.Test.YtlaafamodaogmaaCondZ
import Derived.Test.YtlaafamodaogmaaCondI
namespace Go.Proofs.Ytlaafamodaogmaa
open Go.RowKit
set_option linter.unusedVariables false
set_option linter.unusedSimpArgs false
open CM (Sv Pc Ps)
theorem pc_text (a b c d : Value) (w : World) : (Instr.field 77 (.agg #[a, b, c, d]) 3).run Try.prog w = .ok d w := by kernel_rfl
theorem pc_num (a b c d : Value) (w : World) : (Instr.field 77 (.agg #[a, b, c, d]) 2).run Try.prog w = .ok c w := by kernel_rfl
theorem take2 {s : List UInt8} {p : Ps} {w : World} {g : Nat} (h : Fit s p w g) : Calls Try.prog 100 #[.pointer (some ⟨g, 0, none⟩), .int .i64 2] w (Out s g w (p.take s 2) (fun x v _ => v = pcV x)) := take_any (k := 2) h
theorem take3 {s : List UInt8} {p : Ps} {w : World} {g : Nat} (h : Fit s p w g) : Calls Try.prog 100 #[.pointer (some ⟨g, 0, none⟩), .int .i64 3] w (Out s g w (p.take s 3) (fun x v _ => v = pcV x)) := take_any (k := 3) h
theorem take4 {s : List UInt8} {p : Ps} {w : World} {g : Nat} (h : Fit s p w g) : Calls Try.prog 100 #[.pointer (some ⟨g, 0, none⟩), .int .i64 4] w (Out s g w (p.take s 4) (fun x v _ => v = pcV x)) := take_any (k := 4) h
theorem size_alloc (w : World) (o : Obj) : (w.alloc o).heap.size = w.heap.size + 1 := by simp
/-- what a step that gives a condition answers -/
abbrev HoldsOut (s : List UInt8) (g : Nat) (w : World) (R : Except CM.Er (CM.M × Ps)) : Ending → World → Prop := Out s g w R (fun phi v w' => HoldsIs g phi v w')
set_option maxHeartbeats 4000000 in
set_option maxRecDepth 100000 in
theorem number_any {s : List UInt8} {p : Ps} {w : World} {g : Nat} {f : Sv → Int} {k : FuncId} (h : Fit s p w g) (hok : CM.Ok s p) (G : GetN k f) (hE : Ent k) :
    Calls Try.prog 94 #[.pointer (some ⟨g, 0, none⟩), .func (.func k) #[] #[]] w (HoldsOut s g w (CM.numberS s f p)) := by
  have pcf3 := pc_text
  have pcf2 := pc_num
  have hF := h.alloc (.cells #[fnV k] 123)
  have hgl := h.at_.lt
  have hq := (Blk.new w 123 [fnV k])
  have hO1 : Oly g w (w.alloc (.cells #[fnV k] 123)) := (Only.refl _ w).alloc _
  have hne : w.heap.size ≠ g := by omega
  have hgq : g < w.heap.size := hgl
  obtain ⟨W1, hW1⟩ : ∃ W1, w.alloc (.cells #[.func (.func k) #[] #[]] 123) = W1 := ⟨_, rfl⟩
  have hW1' : w.alloc (.cells [fnV k].toArray 123) = W1 := hW1
  rw [hW1'] at hq
  have hF' : Fit s p W1 g := hW1' ▸ hF
  have hO1' : Oly g w W1 := hW1' ▸ hO1
  clear hF hO1 hW1' h
  have hqc := Lib.hid (fun (w3 : World) (ho : Oly g W1 w3) => (⟨(Blk.only hq ho hne : Blk w3 w.heap.size _ _).cell 0, (Blk.only hq ho hne : Blk w3 w.heap.size _ _).lt⟩ : w3.cell? ⟨w.heap.size, 0, none⟩ = some (fnV k) ∧ w.heap.size < w3.heap.size))
  clear hq
  replace hW1 := Lib.hid hW1
  replace hO1' := Lib.hid hO1'
  replace hE := Lib.hid hE
  replace G := Lib.hid G
  by_cases hi : p.pc.is 1 CM.changedW = true
  · cases hn : p.next s with
    | error e =>
      obtain ⟨a, x⟩ := e
      have hS : CM.numberS s f p = .error (a, x) := by unfold CM.numberS; rw [if_pos hi, hn]
      have hnx := Lib.hid (is_err hF' hi hn)
      unfold HoldsOut
      rw [hS]
      clear hF' hi hn hS hok
      go_enter Try.func94, Try.ntmps94
      go_wp2_with (go_at_call 54; rw [hW1.out]; refine hnx.out.mono ?_; rintro e w3 ⟨rfl, hO3⟩)
      all_goals exact ⟨rfl, Out.err rfl (Only.trans hO1'.out hO3)⟩
    | ok q =>
      have hS : CM.numberS s f p = .ok (fun was now => f was != f now, q) := by unfold CM.numberS; rw [if_pos hi, hn]
      have hnx := Lib.hid (is_ok hF' hi hn)
      unfold HoldsOut
      rw [hS]
      clear hF' hi hn hS hok
      go_enter Try.func94, Try.ntmps94
      go_wp2_with (go_at_call 54; rw [hW1.out]; refine hnx.out.mono ?_; rintro e w3 ⟨rfl, hP3, hO3⟩)
      all_goals go_ret
      all_goals exact Out.ok rfl (HoldsIs.numCh (hqc.out _ hO3).1 (hqc.out _ hO3).2 hgq G.out hE.out) hP3 (Only.trans hO1'.out hO3)
  · have hi' : p.pc.is 1 CM.changedW = false := by simpa using hi
    have hno := Lib.hid (is_no hF' hi')
    have htk := take4 hF'
    cases hA : p.take s 4 with
    | error e =>
      obtain ⟨a, x⟩ := e
      have hS : CM.numberS s f p = .error (a, x) := by unfold CM.numberS; rw [if_neg hi, hA]
      replace htk := Lib.hid (Out.no htk hA)
      unfold HoldsOut
      rw [hS]
      clear hF' hi hi' hA hS hok
      go_enter Try.func94, Try.ntmps94
      go_wp2_with (first
        | (go_at_call 54; rw [hW1.out]; refine hno.out.mono ?_; rintro e w2 ⟨rfl, rfl⟩)
        | (go_at_call 100; refine htk.out.mono ?_; rintro e w3 ⟨rfl, hO3⟩))
      all_goals exact ⟨rfl, Out.err rfl (Only.trans hO1'.out hO3)⟩
    | ok xq =>
      obtain ⟨x, q⟩ := xq
      have hlq := CM.take_less hok hA
      have ht2 := fun w3 (hP : PsAt w3 g s q) (o : Obj) => take2 (Fit.alloc ⟨hF'.len, hlq.ok.le, hP⟩ o)
      replace htk := Lib.hid (Out.yes htk hA)
      cases hB : q.take s 2 with
      | error e =>
        obtain ⟨a, y⟩ := e
        have hS : CM.numberS s f p = .error (a, y) := by unfold CM.numberS; rw [if_neg hi, hA]; simp only; rw [hB]
        have ht3 := Lib.hid (fun w3 (hP : PsAt w3 g s q) (o : Obj) => Out.no (ht2 w3 hP o) hB)
        unfold HoldsOut
        rw [hS]
        clear hF' hi hi' hA hB hS hok ht2 hlq
        go_enter Try.func94, Try.ntmps94
        go_wp2_with (first
          | (go_at_call 54; rw [hW1.out]; refine hno.out.mono ?_; rintro e w2 ⟨rfl, rfl⟩)
          | (go_at_call 100; first
            | ((with_reducible refine htk.out.mono ?_); rintro e w3 ⟨v, rfl, rfl, hP3, hO3⟩; unfold pcV)
            | ((with_reducible refine (ht3.out _ hP3 _).mono ?_); rintro e w4 ⟨rfl, hO4⟩)))
        all_goals exact ⟨rfl, Out.err rfl (Only.trans hO1'.out (Only.trans (Only.alloc hO3 _) hO4))⟩
      | ok yr =>
        obtain ⟨y, r⟩ := yr
        have hS : CM.numberS s f p = .ok (fun _ now => CM.signOf x.s (f now) y.n, r) := by unfold CM.numberS; rw [if_neg hi, hA]; simp only; rw [hB]
        have ht3 := Lib.hid (fun w3 (hP : PsAt w3 g s q) (o : Obj) => Out.yes (ht2 w3 hP o) hB)
        unfold HoldsOut
        rw [hS]
        replace hgl := Lib.hid (fun (w3 : World) (ho : Oly g W1 w3) => Nat.lt_of_lt_of_le hF'.at_.lt ho.size)
        clear hF' hi hi' hA hB hS hok ht2 hlq
        go_enter Try.func94, Try.ntmps94
        go_wp2_with (first
          | (go_at_call 54; rw [hW1.out]; refine hno.out.mono ?_; rintro e w2 ⟨rfl, rfl⟩)
          | (go_at_call 100; first
            | ((with_reducible refine htk.out.mono ?_); rintro e w3 ⟨v, rfl, rfl, hP3, hO3⟩; unfold pcV)
            | ((with_reducible refine (ht3.out _ hP3 _).mono ?_); rintro e w4 ⟨v, rfl, rfl, hP4, hO4⟩; unfold pcV)))
        go_ret
        have hg3 := hgl.out _ hO3
        have hs4 := hO4.size
        simp only [size_alloc] at hs4
        have o5 : Oly g W1 (w4.alloc (.cells #[.int .i64 y.n] 3)) := Only.alloc (Only.trans (Only.alloc hO3 (.cells #[strV x.s] 9)) hO4) _
        have ht : (w4.alloc (.cells #[.int .i64 y.n] 3)).cell? ⟨w3.heap.size, 0, none⟩ = some (strV x.s) :=
          (oly_cell (Only.alloc hO4 (.cells #[.int .i64 y.n] 3)) (by simp) (by omega)).trans ((Blk.new w3 9 [strV x.s]).cell 0)
        exact Out.ok rfl (HoldsIs.numCmp (hqc.out _ o5).1 (hqc.out _ o5).2 hgq G.out hE.out ((Blk.new w4 3 [.int .i64 y.n]).cell 0) (by simp) (by omega) ht (by simp; omega) (by omega)) (Blk.alloc hP4 _) (Only.trans hO1'.out o5)
end Go.Proofs.Ytlaafamodaogmaa
