/-
  cond.parser: number, text, phase; of chapter 27.
  Conditions: as each theorem states them.
-/
import Derived.Test.YtcjcflmnghhbaaaGreatCondYz
import Derived.Test.YtcjcflmnghhbaaaGreatCondHi
import Derived.Deep.RegionHeld3
namespace Go.Proofs.YtcjcflmnghhbaaaGreat
open Go.RowKit
set_option linter.unusedVariables false
set_option linter.unusedSimpArgs false
open CM (Sv Pc Ps)
theorem pc_text (a b c d : Value) (w : World) : (Instr.field 92 (.agg #[a, b, c, d]) 3).run Tryz.prog w = .ok d w := by kernel_rfl
theorem pc_num (a b c d : Value) (w : World) : (Instr.field 92 (.agg #[a, b, c, d]) 2).run Tryz.prog w = .ok c w := by kernel_rfl
theorem take2 {s : List UInt8} {p : Ps} {w : World} {g : Nat} (h : Fit s p w g) : Calls Tryz.prog 96 #[.pointer (some ⟨g, 0, none⟩), .int .i64 2] w (Out s g w (p.take s 2) (fun x v _ => v = pcV x)) := take_any (k := 2) h
theorem take3 {s : List UInt8} {p : Ps} {w : World} {g : Nat} (h : Fit s p w g) : Calls Tryz.prog 96 #[.pointer (some ⟨g, 0, none⟩), .int .i64 3] w (Out s g w (p.take s 3) (fun x v _ => v = pcV x)) := take_any (k := 3) h
theorem take4 {s : List UInt8} {p : Ps} {w : World} {g : Nat} (h : Fit s p w g) : Calls Tryz.prog 96 #[.pointer (some ⟨g, 0, none⟩), .int .i64 4] w (Out s g w (p.take s 4) (fun x v _ => v = pcV x)) := take_any (k := 4) h
theorem size_alloc (w : World) (o : Obj) : (w.alloc o).heap.size = w.heap.size + 1 := by simp
/-- what a step that gives a condition answers -/
abbrev HoldsOut (s : List UInt8) (g : Nat) (w : World) (R : Except CM.Er (CM.M × Ps)) : Ending → World → Prop := Out s g w R (fun phi v w' => HoldsIs g phi v w')
set_option maxHeartbeats 4000000 in
set_option maxRecDepth 100000 in
theorem number_any {s : List UInt8} {p : Ps} {w : World} {g : Nat} {f : Sv → Int} {k : FuncId} (h : Fit s p w g) (hok : CM.Ok s p) (G : GetN k f) (hE : Ent k) :
    Calls Tryz.prog 90 #[.pointer (some ⟨g, 0, none⟩), .func (.func k) #[] #[]] w (HoldsOut s g w (CM.numberS s f p)) := by
  have pcf3 := pc_text
  have pcf2 := pc_num
  have hF := h.alloc (.cells #[fnV k] 124)
  have hgl := h.at_.lt
  have hq := (Blk.new w 124 [fnV k])
  have hO1 : Oly g w (w.alloc (.cells #[fnV k] 124)) := (Only.refl _ w).alloc _
  have hne : w.heap.size ≠ g := by omega
  have hgq : g < w.heap.size := hgl
  obtain ⟨W1, hW1⟩ : ∃ W1, w.alloc (.cells #[.func (.func k) #[] #[]] 124) = W1 := ⟨_, rfl⟩
  have hW1' : w.alloc (.cells [fnV k].toArray 124) = W1 := hW1
  rw [hW1'] at hq
  have hF' : Fit s p W1 g := hW1' ▸ hF
  have hO1' : Oly g w W1 := hW1' ▸ hO1
  clear hF hO1 hW1' h
  have hqc := Lib.hid (fun (w3 : World) (ho : Oly g W1 w3) => (⟨(Blk.only hq ho hne : Blk w3 w.heap.size _ _).cell 0, (Blk.only hq ho hne : Blk w3 w.heap.size _ _).lt⟩ : w3.cell? ⟨w.heap.size, 0, none⟩ = some (fnV k) ∧ w.heap.size < w3.heap.size))
  clear hq
  replace hW1 := Lib.hid hW1
  replace hO1' := Lib.hid hO1'
  replace hE := Lib.hid hE
  replace G := Lib.hid G
  by_cases hi : p.pc.is 1 CM.changedW = true
  · cases hn : p.next s with
    | error e =>
      obtain ⟨a, x⟩ := e
      have hS : CM.numberS s f p = .error (a, x) := by unfold CM.numberS; rw [if_pos hi, hn]
      have hnx := Lib.hid (is_err hF' hi hn)
      unfold HoldsOut
      rw [hS]
      clear hF' hi hn hS hok
      go_enter Tryz.func90, Tryz.ntmps90
      go_wp2_with (go_at_call 51; rw [hW1.out]; refine hnx.out.mono ?_; rintro e w3 ⟨rfl, hO3⟩)
      all_goals exact ⟨rfl, Out.err rfl (Only.trans hO1'.out hO3)⟩
    | ok q =>
      have hS : CM.numberS s f p = .ok (fun was now => f was != f now, q) := by unfold CM.numberS; rw [if_pos hi, hn]
      have hnx := Lib.hid (is_ok hF' hi hn)
      unfold HoldsOut
      rw [hS]
      clear hF' hi hn hS hok
      go_enter Tryz.func90, Tryz.ntmps90
      go_wp2_with (go_at_call 51; rw [hW1.out]; refine hnx.out.mono ?_; rintro e w3 ⟨rfl, hP3, hO3⟩)
      all_goals go_ret
      all_goals exact Out.ok rfl (HoldsIs.numCh (hqc.out _ hO3).1 (hqc.out _ hO3).2 hgq G.out hE.out) hP3 (Only.trans hO1'.out hO3)
  · have hi' : p.pc.is 1 CM.changedW = false := by simpa using hi
    have hno := Lib.hid (is_no hF' hi')
    have htk := take4 hF'
    cases hA : p.take s 4 with
    | error e =>
      obtain ⟨a, x⟩ := e
      have hS : CM.numberS s f p = .error (a, x) := by unfold CM.numberS; rw [if_neg hi, hA]
      replace htk := Lib.hid (Out.no htk hA)
      unfold HoldsOut
      rw [hS]
      clear hF' hi hi' hA hS hok
      go_enter Tryz.func90, Tryz.ntmps90
      go_wp2_with (first
        | (go_at_call 51; rw [hW1.out]; refine hno.out.mono ?_; rintro e w2 ⟨rfl, rfl⟩)
        | (go_at_call 96; refine htk.out.mono ?_; rintro e w3 ⟨rfl, hO3⟩))
      all_goals exact ⟨rfl, Out.err rfl (Only.trans hO1'.out hO3)⟩
    | ok xq =>
      obtain ⟨x, q⟩ := xq
      have hlq := CM.take_less hok hA
      have ht2 := fun w3 (hP : PsAt w3 g s q) (o : Obj) => take2 (Fit.alloc ⟨hF'.len, hlq.ok.le, hP⟩ o)
      replace htk := Lib.hid (Out.yes htk hA)
      cases hB : q.take s 2 with
      | error e =>
        obtain ⟨a, y⟩ := e
        have hS : CM.numberS s f p = .error (a, y) := by unfold CM.numberS; rw [if_neg hi, hA]; simp only; rw [hB]
        have ht3 := Lib.hid (fun w3 (hP : PsAt w3 g s q) (o : Obj) => Out.no (ht2 w3 hP o) hB)
        unfold HoldsOut
        rw [hS]
        clear hF' hi hi' hA hB hS hok ht2 hlq
        go_enter Tryz.func90, Tryz.ntmps90
        go_wp2_with (first
          | (go_at_call 51; rw [hW1.out]; refine hno.out.mono ?_; rintro e w2 ⟨rfl, rfl⟩)
          | (go_at_call 96; first
            | ((with_reducible refine htk.out.mono ?_); rintro e w3 ⟨v, rfl, rfl, hP3, hO3⟩; unfold pcV)
            | ((with_reducible refine (ht3.out _ hP3 _).mono ?_); rintro e w4 ⟨rfl, hO4⟩)))
        all_goals exact ⟨rfl, Out.err rfl (Only.trans hO1'.out (Only.trans (Only.alloc hO3 _) hO4))⟩
      | ok yr =>
        obtain ⟨y, r⟩ := yr
        have hS : CM.numberS s f p = .ok (fun _ now => CM.signOf x.s (f now) y.n, r) := by unfold CM.numberS; rw [if_neg hi, hA]; simp only; rw [hB]
        have ht3 := Lib.hid (fun w3 (hP : PsAt w3 g s q) (o : Obj) => Out.yes (ht2 w3 hP o) hB)
        unfold HoldsOut
        rw [hS]
        replace hgl := Lib.hid (fun (w3 : World) (ho : Oly g W1 w3) => Nat.lt_of_lt_of_le hF'.at_.lt ho.size)
        clear hF' hi hi' hA hB hS hok ht2 hlq
        go_enter Tryz.func90, Tryz.ntmps90
        go_wp2_with (first
          | (go_at_call 51; rw [hW1.out]; refine hno.out.mono ?_; rintro e w2 ⟨rfl, rfl⟩)
          | (go_at_call 96; first
            | ((with_reducible refine htk.out.mono ?_); rintro e w3 ⟨v, rfl, rfl, hP3, hO3⟩; unfold pcV)
            | ((with_reducible refine (ht3.out _ hP3 _).mono ?_); rintro e w4 ⟨v, rfl, rfl, hP4, hO4⟩; unfold pcV)))
        go_ret
        have hg3 := hgl.out _ hO3
        have hs4 := hO4.size
        simp only [size_alloc] at hs4
        have o5 : Oly g W1 (w4.alloc (.cells #[.int .i64 y.n] 3)) := Only.alloc (Only.trans (Only.alloc hO3 (.cells #[strV x.s] 9)) hO4) _
        have ht : (w4.alloc (.cells #[.int .i64 y.n] 3)).cell? ⟨w3.heap.size, 0, none⟩ = some (strV x.s) :=
          (oly_cell (Only.alloc hO4 (.cells #[.int .i64 y.n] 3)) (by simp) (by omega)).trans ((Blk.new w3 9 [strV x.s]).cell 0)
        exact Out.ok rfl (HoldsIs.numCmp (hqc.out _ o5).1 (hqc.out _ o5).2 hgq G.out hE.out ((Blk.new w4 3 [.int .i64 y.n]).cell 0) (by simp) (by omega) ht (by simp; omega) (by omega)) (Blk.alloc hP4 _) (Only.trans hO1'.out o5)
end Go.Proofs.YtcjcflmnghhbaaaGreat
/-
  cond.parser: text, phase; of chapter 27.
  Conditions: as each theorem states them.
-/
namespace Go.Proofs.YtcjcflmnghhbaaaGreat
open Go.RowKit
set_option linter.unusedVariables false
set_option linter.unusedSimpArgs false
open CM (Sv Pc Ps)
theorem unqS_le : ∀ (n : Nat) (out : List UInt8) (a : Nat) (r : List UInt8), r.length ≤ n → (unqS out a r).1.length ≤ out.length + r.length
  | n, out, a, [], _ => by rw [unqS_nil]; simp
  | 0, out, a, c :: r, h => by simp at h
  | n + 1, out, a, c :: r, h => by
    simp only [List.length_cons] at h
    by_cases h1 : c = 34
    · subst h1; rw [unqS_end]; simp
    · by_cases h2 : c = 92
      · subst h2
        cases he : escS r with
        | error e => rw [unqS_err out a r e he]; simp
        | ok xn =>
          obtain ⟨x, m⟩ := xn
          rw [unqS_esc out a r x m he]
          have := unqS_le n (out ++ [x]) (a + 1 + m) (r.drop m) (by rw [List.length_drop]; omega)
          rw [List.length_append, List.length_drop] at this
          simp only [List.length_cons, List.length_nil] at this ⊢
          omega
      · rw [unqS_plain out a c r h1 h2]
        have := unqS_le n (out ++ [c]) (a + 1) r (by omega)
        rw [List.length_append] at this
        simp only [List.length_cons, List.length_nil] at this ⊢
        omega
/-- a piece's text is no longer than what is parsed -/
theorem next_txt {s : List UInt8} {p q : Ps} (h : p.next s = .ok q) : q.pc.s.length ≤ s.length + 2 := by
  unfold Ps.next CM.nextS at h
  generalize CM.skip s p.at_ = b at h
  unfold CM.pieceS at h
  cases hd : s.drop b with
  | nil => rw [hd] at h; simp only [Except.ok.injEq] at h; subst h; simp
  | cons c r =>
    have hlen := congrArg List.length hd
    simp only [List.length_drop, List.length_cons] at hlen
    rw [hd] at h
    simp only at h
    by_cases h1 : CM.low c = true
    · rw [if_pos h1] at h
      have h3 : ((c :: r).takeWhile CM.low).length ≤ (c :: r).length := (List.takeWhile_prefix CM.low).length_le
      simp only [List.length_cons] at h3
      split at h
      · simp at h
      · rename_i heq
        split at heq
        · simp only [Except.ok.injEq, Prod.mk.injEq] at heq
          obtain ⟨rfl, rfl⟩ := heq
          simp only [Except.ok.injEq] at h
          subst h
          simp only; omega
        · cases heq
    · rw [if_neg h1] at h
      by_cases h2 : dig c = true
      · rw [if_pos h2] at h
        split at h
        · simp at h
        · rename_i heq
          split at heq
          · simp only [Except.ok.injEq, Prod.mk.injEq] at heq
            obtain ⟨rfl, rfl⟩ := heq
            simp only [Except.ok.injEq] at h
            subst h
            simp
          · cases heq
      · rw [if_neg h2] at h
        by_cases h3 : c = 34
        · rw [if_pos h3] at h
          split at h
          · simp at h
          · rename_i heq
            split at heq
            · simp only [Except.ok.injEq, Prod.mk.injEq] at heq
              obtain ⟨rfl, rfl⟩ := heq
              simp only [Except.ok.injEq] at h
              subst h
              simp only
              unfold unquoteS
              split
              · simp
              · simp only [Int.toNat_natCast, hd]
                rw [if_neg (by simpa using h3)]
                have := unqS_le r.length [] (b + 1) r (Nat.le_refl _)
                simp only [List.length_nil] at this; omega
            · cases heq
        · rw [if_neg h3] at h
          by_cases h4 : c = 40 ∨ c = 41
          · rw [if_pos h4] at h
            simp only [Except.ok.injEq] at h
            subst h
            simp
          · rw [if_neg h4] at h
            have h5 := CM.signS_len (c :: r)
            simp only [List.length_cons] at h5
            split at h
            · simp at h
            · rename_i heq
              split at heq
              · cases heq
              · simp only [Except.ok.injEq, Prod.mk.injEq] at heq
                obtain ⟨rfl, rfl⟩ := heq
                simp only [Except.ok.injEq] at h
                subst h
                simp only; omega
theorem take_pc {s : List UInt8} {p q : Ps} {k : Nat} {x : Pc} (h : p.take s k = .ok (x, q)) : x = p.pc := by
  unfold Ps.take at h
  split at h
  · split at h
    · cases h
    · simp only [Except.ok.injEq, Prod.mk.injEq] at h; exact h.1.symm
  · cases h
theorem is1_no {s : List UInt8} {p : Ps} {wd : List UInt8} {w : World} {g : Nat} (h : Fit s p w g) (hi : p.pc.is 1 wd = false) : Calls Tryz.prog 51 #[.pointer (some ⟨g, 0, none⟩), .int .i64 1, strV wd] w fun e w' => e = .returned (.bool false) ∧ w = w' := is_no (k := 1) h hi
theorem is1_ok {s : List UInt8} {p q : Ps} {wd : List UInt8} {w : World} {g : Nat} (h : Fit s p w g) (hi : p.pc.is 1 wd = true) (hn : p.next s = .ok q) : Calls Tryz.prog 51 #[.pointer (some ⟨g, 0, none⟩), .int .i64 1, strV wd] w fun e w' => e = .returned (.bool true) ∧ PsAt w' g s q ∧ Oly g w w' := is_ok (k := 1) h hi hn
theorem is1_err {s : List UInt8} {p : Ps} {a : Nat} {x : Int} {wd : List UInt8} {w : World} {g : Nat} (h : Fit s p w g) (hi : p.pc.is 1 wd = true) (hn : p.next s = .error (a, x)) : Calls Tryz.prog 51 #[.pointer (some ⟨g, 0, none⟩), .int .i64 1, strV wd] w fun e w' => e = .panicked [broken (a : Int) x] ∧ Oly g w w' := is_err (k := 1) h hi hn
set_option maxHeartbeats 4000000 in
set_option maxRecDepth 100000 in
theorem text_any {s : List UInt8} {p : Ps} {w : World} {g : Nat} {f : Sv → List UInt8} {k : FuncId} (h : Fit s p w g) (hok : CM.Ok s p) (G : GetU k f) (hE : Ent k) :
    Calls Tryz.prog 91 #[.pointer (some ⟨g, 0, none⟩), .func (.func k) #[] #[]] w (HoldsOut s g w (CM.textS s f p)) := by
  have pcf3 := pc_text
  have hF := h.alloc (.cells #[fnV k] 128)
  have hgl := h.at_.lt
  have hq := (Blk.new w 128 [fnV k])
  have hO1 : Oly g w (w.alloc (.cells #[fnV k] 128)) := (Only.refl _ w).alloc _
  have hne : w.heap.size ≠ g := by omega
  have hgq : g < w.heap.size := hgl
  obtain ⟨W1, hW1⟩ : ∃ W1, w.alloc (.cells #[.func (.func k) #[] #[]] 128) = W1 := ⟨_, rfl⟩
  have hW1' : w.alloc (.cells [fnV k].toArray 128) = W1 := hW1
  rw [hW1'] at hq
  have hF' : Fit s p W1 g := hW1' ▸ hF
  have hO1' : Oly g w W1 := hW1' ▸ hO1
  clear hF hO1 hW1' h
  have hqc := Lib.hid (fun (w3 : World) (ho : Oly g W1 w3) => (⟨(Blk.only hq ho hne : Blk w3 w.heap.size _ _).cell 0, (Blk.only hq ho hne : Blk w3 w.heap.size _ _).lt⟩ : w3.cell? ⟨w.heap.size, 0, none⟩ = some (fnV k) ∧ w.heap.size < w3.heap.size))
  clear hq
  replace hW1 := Lib.hid hW1
  replace hO1' := Lib.hid hO1'
  replace hE := Lib.hid hE
  replace G := Lib.hid G
  have hG1 := Lib.hid (fun (w3 : World) (ho : Oly g W1 w3) => Nat.lt_of_lt_of_le hF'.at_.lt ho.size)
  unfold HoldsOut
  by_cases hi : p.pc.is 1 CM.changedW = true
  · cases hn : p.next s with
    | error e =>
      obtain ⟨a, x⟩ := e
      have hS : CM.textS s f p = .error (a, x) := by unfold CM.textS; rw [if_pos hi, hn]
      have hnx := Lib.hid (is1_err hF' hi hn)
      rw [hS]
      clear hF' hi hn hS hok
      go_enter Tryz.func91, Tryz.ntmps91
      go_wp2_with (go_at_call 51; rw [hW1.out]; refine hnx.out.mono ?_; rintro e w3 ⟨rfl, hO3⟩)
      all_goals exact ⟨rfl, Out.err rfl (Only.trans hO1'.out hO3)⟩
    | ok q =>
      have hS : CM.textS s f p = .ok (fun was now => !(f was == f now), q) := by unfold CM.textS; rw [if_pos hi, hn]
      have hnx := Lib.hid (is1_ok hF' hi hn)
      rw [hS]
      clear hF' hi hn hS hok
      go_enter Tryz.func91, Tryz.ntmps91
      go_wp2_with (go_at_call 51; rw [hW1.out]; refine hnx.out.mono ?_; rintro e w3 ⟨rfl, hP3, hO3⟩)
      all_goals go_ret
      all_goals exact Out.ok rfl (HoldsIs.txtCh (hqc.out _ hO3).1 (hqc.out _ hO3).2 hgq G.out hE.out) hP3 (Only.trans hO1'.out hO3)
  have hi' : p.pc.is 1 CM.changedW = false := by simpa using hi
  have hno := Lib.hid (is1_no hF' hi')
  by_cases hhas : p.pc.is 1 CM.hasW = true
  · cases hn : p.next s with
    | error e =>
      obtain ⟨a, x⟩ := e
      have hS : CM.textS s f p = .error (a, x) := by unfold CM.textS; rw [if_neg hi, if_pos hhas, hn]
      have hnx := Lib.hid (is1_err hF' hhas hn)
      rw [hS]
      clear hF' hi hi' hhas hn hS hok
      go_enter Tryz.func91, Tryz.ntmps91
      go_wp2_with (go_at_call 51; (try rw [hW1.out]); first | ((with_reducible refine hno.out.mono ?_); rintro e w2 ⟨rfl, rfl⟩) | ((with_reducible refine hnx.out.mono ?_); rintro e w3 ⟨rfl, hO3⟩))
      all_goals exact ⟨rfl, Out.err rfl (Only.trans hO1'.out hO3)⟩
    | ok q =>
      have hnx := Lib.hid (is1_ok hF' hhas hn)
      have hlq := (CM.next_less hok (CM.is_some hhas) hn).1
      have htx := next_txt hn
      have hlen := hF'.len
      have ht2 := fun w3 (hP : PsAt w3 g s q) => take3 ⟨hF'.len, hlq.ok.le, hP⟩
      cases hB : q.take s 3 with
      | error e =>
        obtain ⟨a, x⟩ := e
        have hS : CM.textS s f p = .error (a, x) := by unfold CM.textS; rw [if_neg hi, if_pos hhas, hn]; simp only; rw [hB]
        have ht3 := Lib.hid (fun w3 (hP : PsAt w3 g s q) => Out.no (ht2 w3 hP) hB)
        rw [hS]
        clear hF' hi hi' hhas hn hS hok ht2 hB hlq htx hlen
        go_enter Tryz.func91, Tryz.ntmps91
        go_wp2_with (first
          | (go_at_call 51; (try rw [hW1.out]); first | ((with_reducible refine hno.out.mono ?_); rintro e w2 ⟨rfl, rfl⟩) | ((with_reducible refine hnx.out.mono ?_); rintro e w3 ⟨rfl, hP3, hO3⟩))
          | (go_at_call 96; (with_reducible refine (ht3.out _ hP3).mono ?_); rintro e w4 ⟨rfl, hO4⟩))
        all_goals exact ⟨rfl, Out.err rfl (Only.trans hO1'.out (Only.trans hO3 hO4))⟩
      | ok yr =>
        obtain ⟨y, r⟩ := yr
        have hyq := take_pc hB
        rw [← hyq] at htx
        clear hyq
        have hS : CM.textS s f p = .ok (fun _ now => CM.hasS (f now) y.s, r) := by unfold CM.textS; rw [if_neg hi, if_pos hhas, hn]; simp only; rw [hB]
        have ht3 := Lib.hid (fun w3 (hP : PsAt w3 g s q) => Out.yes (ht2 w3 hP) hB)
        rw [hS]
        clear hF' hi hi' hhas hn hS hok ht2 hB hlq
        go_enter Tryz.func91, Tryz.ntmps91
        go_wp2_with (first
          | (go_at_call 51; (try rw [hW1.out]); first | ((with_reducible refine hno.out.mono ?_); rintro e w2 ⟨rfl, rfl⟩) | ((with_reducible refine hnx.out.mono ?_); rintro e w3 ⟨rfl, hP3, hO3⟩))
          | (go_at_call 96; (with_reducible refine (ht3.out _ hP3).mono ?_); rintro e w4 ⟨v, rfl, rfl, hP4, hO4⟩; unfold pcV; obtain ⟨c2, W5, hcv, hb5, hr5, hl5⟩ := conv_bytes (P := Tryz.prog) w4 9 23 5 y.s Tryz.underlying9 Tryz.underlying23 Tryz.underlying5; replace hr5 := Lib.hid hr5; replace hb5 := Lib.hid hb5))
        go_ret
        have o4 : Oly g W1 w4 := Only.trans hO3 hO4
        have hg4 := hG1.out _ o4
        have hs5 := hb5.out.size
        have o5 : Oly g W1 (W5.alloc (.cells #[.slice (some ⟨w4.heap.size, 0, none⟩) y.s.length c2] 23)) := Only.alloc (Only.trans o4 (Only.of_below hb5.out)) _
        have hP5 : PsAt (W5.alloc (.cells #[.slice (some ⟨w4.heap.size, 0, none⟩) y.s.length c2] 23)) g s r := Blk.alloc (Blk.below hP4 hb5.out) _
        have hbr : ByteRow (W5.alloc (.cells #[.slice (some ⟨w4.heap.size, 0, none⟩) y.s.length c2] 23)) w4.heap.size 0 y.s := fun i hi => ((bl_alloc (Below.refl W5.heap.size W5) _).cell (p := ⟨w4.heap.size, 0 + i, none⟩) hl5).trans (hr5.out i hi)
        exact Out.ok rfl (HoldsIs.txtHas (hqc.out _ o5).1 (hqc.out _ o5).2 hgq G.out hE.out ((Blk.new W5 23 [.slice (some ⟨w4.heap.size, 0, none⟩) y.s.length c2]).cell 0) (by simp) (by omega) hbr (by simp; omega) (by omega) (by omega)) hP5 (Only.trans hO1'.out o5)
  have hhas' : p.pc.is 1 CM.hasW = false := by simpa using hhas
  have hno2 := Lib.hid (is1_no hF' hhas')
  by_cases his : p.pc.is 1 CM.isW = true
  · cases hn : p.next s with
    | error e =>
      obtain ⟨a, x⟩ := e
      have hS : CM.textS s f p = .error (a, x) := by unfold CM.textS; rw [if_neg hi, if_neg hhas, if_pos his, hn]
      have hnx := Lib.hid (is1_err hF' his hn)
      rw [hS]
      clear hF' hi hi' his hhas hhas' hn hS hok
      go_enter Tryz.func91, Tryz.ntmps91
      go_wp2_with (go_at_call 51; (try rw [hW1.out]); first | ((with_reducible refine hno.out.mono ?_); rintro e w2 ⟨rfl, rfl⟩) | ((with_reducible refine hno2.out.mono ?_); rintro e w2 ⟨rfl, rfl⟩) | ((with_reducible refine hnx.out.mono ?_); rintro e w3 ⟨rfl, hO3⟩))
      all_goals exact ⟨rfl, Out.err rfl (Only.trans hO1'.out hO3)⟩
    | ok q =>
      have hnx := Lib.hid (is1_ok hF' his hn)
      have hlq := (CM.next_less hok (CM.is_some his) hn).1
      have htx := next_txt hn
      have hlen := hF'.len
      have ht2 := fun w3 (hP : PsAt w3 g s q) => take3 ⟨hF'.len, hlq.ok.le, hP⟩
      cases hB : q.take s 3 with
      | error e =>
        obtain ⟨a, x⟩ := e
        have hS : CM.textS s f p = .error (a, x) := by unfold CM.textS; rw [if_neg hi, if_neg hhas, if_pos his, hn]; simp only; rw [hB]
        have ht3 := Lib.hid (fun w3 (hP : PsAt w3 g s q) => Out.no (ht2 w3 hP) hB)
        rw [hS]
        clear hF' hi hi' his hhas hhas' hn hS hok ht2 hB hlq htx hlen
        go_enter Tryz.func91, Tryz.ntmps91
        go_wp2_with (first
          | (go_at_call 51; (try rw [hW1.out]); first | ((with_reducible refine hno.out.mono ?_); rintro e w2 ⟨rfl, rfl⟩) | ((with_reducible refine hno2.out.mono ?_); rintro e w2 ⟨rfl, rfl⟩) | ((with_reducible refine hnx.out.mono ?_); rintro e w3 ⟨rfl, hP3, hO3⟩))
          | (go_at_call 96; (with_reducible refine (ht3.out _ hP3).mono ?_); rintro e w4 ⟨rfl, hO4⟩))
        all_goals exact ⟨rfl, Out.err rfl (Only.trans hO1'.out (Only.trans hO3 hO4))⟩
      | ok yr =>
        obtain ⟨y, r⟩ := yr
        have hyq := take_pc hB
        rw [← hyq] at htx
        clear hyq
        have hS : CM.textS s f p = .ok (fun _ now => f now == y.s, r) := by unfold CM.textS; rw [if_neg hi, if_neg hhas, if_pos his, hn]; simp only; rw [hB]
        have ht3 := Lib.hid (fun w3 (hP : PsAt w3 g s q) => Out.yes (ht2 w3 hP) hB)
        rw [hS]
        clear hF' hi hi' his hhas hhas' hn hS hok ht2 hB hlq
        go_enter Tryz.func91, Tryz.ntmps91
        go_wp2_with (first
          | (go_at_call 51; (try rw [hW1.out]); first | ((with_reducible refine hno.out.mono ?_); rintro e w2 ⟨rfl, rfl⟩) | ((with_reducible refine hno2.out.mono ?_); rintro e w2 ⟨rfl, rfl⟩) | ((with_reducible refine hnx.out.mono ?_); rintro e w3 ⟨rfl, hP3, hO3⟩))
          | (go_at_call 96; (with_reducible refine (ht3.out _ hP3).mono ?_); rintro e w4 ⟨v, rfl, rfl, hP4, hO4⟩; unfold pcV; obtain ⟨c2, W5, hcv, hb5, hr5, hl5⟩ := conv_bytes (P := Tryz.prog) w4 9 23 5 y.s Tryz.underlying9 Tryz.underlying23 Tryz.underlying5; replace hr5 := Lib.hid hr5; replace hb5 := Lib.hid hb5))
        go_ret
        have o4 : Oly g W1 w4 := Only.trans hO3 hO4
        have hg4 := hG1.out _ o4
        have hs5 := hb5.out.size
        have o5 : Oly g W1 (W5.alloc (.cells #[.slice (some ⟨w4.heap.size, 0, none⟩) y.s.length c2] 23)) := Only.alloc (Only.trans o4 (Only.of_below hb5.out)) _
        have hP5 : PsAt (W5.alloc (.cells #[.slice (some ⟨w4.heap.size, 0, none⟩) y.s.length c2] 23)) g s r := Blk.alloc (Blk.below hP4 hb5.out) _
        have hbr : ByteRow (W5.alloc (.cells #[.slice (some ⟨w4.heap.size, 0, none⟩) y.s.length c2] 23)) w4.heap.size 0 y.s := fun i hi => ((bl_alloc (Below.refl W5.heap.size W5) _).cell (p := ⟨w4.heap.size, 0 + i, none⟩) hl5).trans (hr5.out i hi)
        exact Out.ok rfl (HoldsIs.txtIs (hqc.out _ o5).1 (hqc.out _ o5).2 hgq G.out hE.out ((Blk.new W5 23 [.slice (some ⟨w4.heap.size, 0, none⟩) y.s.length c2]).cell 0) (by simp) (by omega) hbr (by simp; omega) (by omega)) hP5 (Only.trans hO1'.out o5)
  have his' : p.pc.is 1 CM.isW = false := by simpa using his
  have hno3 := Lib.hid (is1_no hF' his')
  have hS : CM.textS s f p = .error (p.pc.at_, 9) := by unfold CM.textS; rw [if_neg hi, if_neg hhas, if_neg his]
  have hfl := Lib.hid (fun W => fail_any (p.pc.at_ : Int) 9 W)
  have c3 : W1.cell? ⟨g, 3, none⟩ = some (.int .i64 (p.pc.at_ : Int)) := hF'.at_.facts.2.2.2.1
  rw [hS]
  clear hF' hi hi' hhas hhas' his his' hS hok
  go_enter Tryz.func91, Tryz.ntmps91
  go_wp2_with (first
    | (go_at_call 51; (try rw [hW1.out]); first | ((with_reducible refine hno.out.mono ?_); rintro e w2 ⟨rfl, rfl⟩) | ((with_reducible refine hno2.out.mono ?_); rintro e w2 ⟨rfl, rfl⟩) | ((with_reducible refine hno3.out.mono ?_); rintro e w2 ⟨rfl, rfl⟩))
    | (go_at_call 46; refine (hfl.out _).mono ?_; rintro e w5 ⟨rfl, hw5⟩; subst hw5))
  all_goals exact ⟨rfl, Out.err rfl hO1'.out⟩
end Go.Proofs.YtcjcflmnghhbaaaGreat
/-
  cond.parser: phase; of chapter 27.
  Conditions: as each theorem states them.
-/
namespace Go.Proofs.YtcjcflmnghhbaaaGreat
open Go.RowKit
set_option linter.unusedVariables false
set_option linter.unusedSimpArgs false
open CM (Sv Pc Ps)
theorem ph_val (s : List UInt8) : ∃ N, (tabF phT ⟨s.toArray⟩).getD (.int .i64 0) = .int .i64 N ∧ ((tabF phT ⟨s.toArray⟩).isSome = true → CM.phOf s = some N) := by
  cases h : CM.phOf s with
  | some n => exact ⟨n, ph_is s n h, fun _ => rfl⟩
  | none =>
    have h2 := ph_some s
    rw [h] at h2
    cases h3 : tabF phT ⟨s.toArray⟩ with
    | none => exact ⟨0, rfl, fun h => by simp at h⟩
    | some v => rw [h3] at h2; simp at h2
set_option maxHeartbeats 4000000 in
set_option maxRecDepth 100000 in
theorem phase_any {s : List UInt8} {p : Ps} {w : World} {g : Nat} (h : Fit s p w g) (hok : CM.Ok s p) :
    Calls Tryz.prog 92 #[.pointer (some ⟨g, 0, none⟩)] w (HoldsOut s g w (CM.phaseS s p)) := by
  obtain ⟨c0, c1, c2, c3, c4, c5, c6⟩ := h.at_.facts
  have hgl := h.at_.lt
  have hph := Lib.hid (fun W => ph_any W)
  obtain ⟨N, hv, hN⟩ := ph_val p.pc.s
  obtain ⟨bb, hbb⟩ : ∃ bb, (tabF phT ⟨p.pc.s.toArray⟩).isSome = bb := ⟨_, rfl⟩
  have hlk := Lib.hid (fun (W : World) (m : Nat) (hM : StrMap W m (tabF phT)) => look_tab hM Tryz.underlying137 (zero_int W) p.pc.s)
  rw [hv, hbb] at hlk
  have hcell := Lib.hid (fun (W : World) (hb : Below w.heap.size w W) => hb.cell (p := ⟨g, 5, none⟩) hgl)
  unfold HoldsOut
  replace hv := Lib.hid hv
  replace hN := Lib.hid hN
  replace hbb := Lib.hid hbb
  replace h := Lib.hid h
  replace hok := Lib.hid hok
  clear c0 c1 c2 c3 c4 c6
  go_enter Tryz.func92, Tryz.ntmps92
  go_upto_region 1 with fail
  go_cut [3, 4] from 5 to 14 (fun s3 s4 wx => ∃ b, s3 = .pointer (some ⟨b, 0, none⟩) ∧ s4 = .bool bb ∧ wx.cell? ⟨b, 0, none⟩ = some (.int .i64 N) ∧ b < wx.heap.size ∧ w.heap.size ≤ b ∧ Below w.heap.size w wx)
  case first =>
    go_region_with (first
      | (go_at_call 63; (with_reducible refine (hph.out _).mono ?_); rintro e w2 ⟨m, rfl, hM, hm1, hm2, hb2⟩; have hlk2 := hlk.out _ _ hM; have hlk3 := fun o => hlk.out _ _ (hM.below (bl_alloc (Below.refl _ _) o)); have hB2 : Below w.heap.size w w2 := (by first | exact bl_trans (bl_drew (Below.refl _ _)) hb2 | exact bl_trans (bl_alloc (bl_drew (Below.refl _ _)) _) hb2 | exact bl_trans (bl_drew (bl_alloc (Below.refl _ _) _)) hb2); have hc2 := hcell.out _ hB2; have hs2 := hB2.size; have hgl2 : g < w2.heap.size := Nat.lt_of_lt_of_le hgl hs2; first | (with_reducible have _hA : Below w.drew.heap.size w.drew w2 := hb2) | (have hn2 : w2.cell? ⟨w.heap.size, 0, none⟩ = some (.int .i64 0) := (hb2.cell (p := ⟨w.heap.size, 0, none⟩) (by simp)).trans (by simp [go_sem]); have hz2 : w2.frozen? ⟨w.heap.size, 0, none⟩ = false := (hb2.frozen (p := ⟨w.heap.size, 0, none⟩) (by simp)).trans (by simp [go_sem]); have hl2 : w.heap.size < w2.heap.size := Nat.lt_of_lt_of_le (by simp) hb2.size)))
    all_goals go_wp2_with fail
    all_goals go_meet
    all_goals first
      | exact ⟨w2.heap.size, rfl, rfl, (Blk.new w2 3 [.int .i64 N]).cell 0, by simp, hs2, bl_alloc hB2 _⟩
      | exact ⟨w.heap.size, rfl, rfl, by simp [hn2, go_sem], by simpa [World.setCell] using hl2, Nat.le_refl _, bl_setCell hB2 (Nat.le_refl _) _⟩
  case rest =>
    obtain ⟨q, rfl, rfl, hqc, hql, hqs, hB⟩ := hcut
    obtain ⟨w1, hw1⟩ : ∃ w1 : World, w1 = wc := ⟨_, rfl⟩
    subst hw1
    clear hcell hlk hph c5
    have hF : Fit s p w1 g := ⟨h.out.len, h.out.le, Blk.below h.out.at_ hB⟩
    obtain ⟨c0, c1, c2, c3, c4, c5, c6⟩ := hF.at_.facts
    have hO := Lib.hid (Only.of_below hB : Oly g w w1)
    have hqg : q ≠ g := by omega
    have hgq : g < q := by omega
    replace h := h.out
    clear h
    have hfl := Lib.hid (fun W => fail_any (p.pc.at_ : Int) 9 W)
    by_cases hk : p.pc.kind = 1
    · have q0 : ((p.pc.kind : Int) != 1) = false := by rw [hk]; rfl
      by_cases hb : bb = true
      · subst hb
        have hph := hN.out hbb.out
        cases hn : p.next s with
        | error e =>
          obtain ⟨a, x⟩ := e
          have hS : CM.phaseS s p = .error (a, x) := by unfold CM.phaseS; rw [if_pos hk, hph]; simp only; rw [hn]
          have hnx := Lib.hid (next_err hF hn)
          replace hS := Lib.hid hS
          clear hF hn hk hN hbb hph hB
          go_wp2_with (go_at_call 31; refine hnx.out.mono ?_; rintro e w3 ⟨rfl, hO3⟩)
          all_goals exact ⟨rfl, Out.err hS.out (Only.trans hO.out hO3)⟩
        | ok r =>
          have hS : CM.phaseS s p = .ok (fun _ now => now.phase == N, r) := by unfold CM.phaseS; rw [if_pos hk, hph]; simp only; rw [hn]
          have hnx := Lib.hid (next_ok hF hn)
          replace hS := Lib.hid hS
          clear hF hn hk hN hbb hph hB
          go_wp2_with (go_at_call 31; refine hnx.out.mono ?_; rintro e w3 ⟨rfl, hP3, hO3⟩)
          all_goals go_ret
          all_goals exact Out.ok hS.out (HoldsIs.phase ((oly_cell hO3 hql hqg).trans hqc) (Nat.lt_of_lt_of_le hql hO3.size) hgq) hP3 (Only.trans hO.out hO3)
      · obtain rfl : bb = false := by simpa using hb
        have hph : CM.phOf p.pc.s = none := by
          have h1 := ph_some p.pc.s
          rw [hbb.out] at h1
          cases h2 : CM.phOf p.pc.s with
          | none => rfl
          | some n => rw [h2] at h1; simp at h1
        have hS : CM.phaseS s p = .error (p.pc.at_, 9) := by unfold CM.phaseS; rw [if_pos hk, hph]
        replace hS := Lib.hid hS
        clear hF hk hN hbb hph hB
        go_wp2_with (go_at_call 46; refine (hfl.out _).mono ?_; rintro e w5 ⟨rfl, hw5⟩; subst hw5)
        all_goals exact ⟨rfl, Out.err hS.out hO.out⟩
    · have q0 : ((p.pc.kind : Int) != 1) = true := by simp; omega
      have hS : CM.phaseS s p = .error (p.pc.at_, 9) := by unfold CM.phaseS; rw [if_neg hk]
      replace hS := Lib.hid hS
      clear hF hk hN hbb hB
      go_wp2_with (go_at_call 46; refine (hfl.out _).mono ?_; rintro e w5 ⟨rfl, hw5⟩; subst hw5)
      all_goals exact ⟨rfl, Out.err hS.out hO.out⟩
end Go.Proofs.YtcjcflmnghhbaaaGreat
