/-
  What a condition's function holds of; the closures; of chapter 27.
  Conditions: as each theorem states them.
-/
import Derived.Test.YtlaafamodaogmaaCondW
import Derived.Test.YtlaafamodaogmaaConvB
import Derived.Test.YtlaafamodaogmaaShelg
namespace Go.Proofs.Ytlaafamodaogmaa
open Go.RowKit
set_option linter.unusedVariables false
set_option linter.unusedSimpArgs false
open CM (Sv)
/-- a function that is entered -/
def Ent (f : FuncId) : Prop := ∀ (args : Array Value) (w : World), (callFunc f args).run Try.prog w = .ok (.enter f args) w
theorem ent_at {f : FuncId} (h : (Try.prog.funcs[f]?.map fun fn => (fn.name == "runtime.NumGoroutine", fn.body.isNone)) = some (false, false)) : Ent f := fun args w => by
  cases hf : Try.prog.funcs[f]? with
  | none => rw [hf] at h; cases h
  | some fn =>
    rw [hf] at h
    simp only [Option.map_some, Option.some.injEq, Prod.mk.injEq] at h
    show (Sem.run _ _ _) = _
    have h1 : ¬ fn.name = "runtime.NumGoroutine" := by simpa using h.1
    have h2 : ¬ fn.body = none := by intro e; rw [e] at h; simp at h
    simp only [callFunc]
    simp [hf, Result.andThen]
    rw [if_neg h1, if_neg h2]
/-- what the tables give -/
theorem num_ent (s : List UInt8) (f : Sv → Int) (h : CM.numOf s = some f) : ∃ k, (tabF numT ⟨s.toArray⟩).getD .nilFunc = fnV k ∧ GetN k f ∧ Ent k := by
  rw [tabF_at]
  unfold CM.numOf at h
  by_cases h1 : s = CM.lineW
  · subst h1; rw [if_pos rfl] at h; injection h with h; subst h; exact ⟨_, rfl, get_line, ent_at (by kernel_rfl)⟩
  by_cases h2 : s = CM.pcW
  · subst h2; rw [if_neg (by decide), if_pos rfl] at h; injection h with h; subst h; exact ⟨_, rfl, get_pc, ent_at (by kernel_rfl)⟩
  by_cases h3 : s = CM.exitW
  · subst h3; rw [if_neg (by decide), if_neg (by decide), if_pos rfl] at h; injection h with h; subst h; exact ⟨_, rfl, get_exit, ent_at (by kernel_rfl)⟩
  by_cases h4 : s = CM.waitsW
  · subst h4; rw [if_neg (by decide), if_neg (by decide), if_neg (by decide), if_pos rfl] at h; injection h with h; subst h; exact ⟨_, rfl, get_waits, ent_at (by kernel_rfl)⟩
  simp [h1, h2, h3, h4] at h
/-- a function that gives a text of a state -/
def GetU (k : FuncId) (f : Sv → List UInt8) : Prop := ∀ (w : World) b s, SvAt w b s → ∃ a c, (f s).length ≤ c ∧ BytesAt w a (f s) ∧ (f s).length ≤ 100000 ∧ ∀ n, Calls Try.prog k #[.pointer (some ⟨b, 0, none⟩)] (w.drewN n) fun e w' => e = .returned (.slice a (f s).length c) ∧ ∃ m, w' = (w.drewN n).drewN m
theorem getu_pattern : GetU 79 (·.pattern) := by
  intro w b s h
  obtain ⟨a, c, k0, h2, h3, h4⟩ := h.pattern
  refine ⟨a, c, h2, h3, h4, fun n => ?_⟩
  go_enter Try.func79, Try.ntmps79
  go_wp2_with fail
  go_ret
  exact ⟨rfl, 0, rfl⟩
theorem getu_hold : GetU 80 (·.hold) := by
  intro w b s h
  obtain ⟨a, c, k0, h2, h3, h4⟩ := h.hold
  refine ⟨a, c, h2, h3, h4, fun n => ?_⟩
  go_enter Try.func80, Try.ntmps80
  go_wp2_with fail
  go_ret
  exact ⟨rfl, 0, rfl⟩
theorem getu_rest : GetU 81 (·.rest) := by
  intro w b s h
  obtain ⟨a, c, k0, h2, h3, h4⟩ := h.rest
  refine ⟨a, c, h2, h3, h4, fun n => ?_⟩
  go_enter Try.func81, Try.ntmps81
  go_wp2_with fail
  go_ret
  exact ⟨rfl, 0, rfl⟩
theorem getu_out : GetU 82 (·.out) := by
  intro w b s h
  obtain ⟨a, c, k0, h2, h3, h4⟩ := h.out
  refine ⟨a, c, h2, h3, h4, fun n => ?_⟩
  go_enter Try.func82, Try.ntmps82
  go_wp2_with fail
  go_ret
  exact ⟨rfl, 0, rfl⟩
theorem txt_ent (s : List UInt8) (f : Sv → List UInt8) (h : CM.txtOf s = some f) : ∃ k, (tabF txtT ⟨s.toArray⟩).getD .nilFunc = fnV k ∧ GetU k f ∧ Ent k := by
  rw [tabF_at]
  unfold CM.txtOf at h
  by_cases h1 : s = CM.patternW
  · subst h1; rw [if_pos rfl] at h; injection h with h; subst h; exact ⟨_, rfl, getu_pattern, ent_at (by kernel_rfl)⟩
  by_cases h2 : s = CM.holdW
  · subst h2; rw [if_neg (by decide), if_pos rfl] at h; injection h with h; subst h; exact ⟨_, rfl, getu_hold, ent_at (by kernel_rfl)⟩
  by_cases h3 : s = CM.restW
  · subst h3; rw [if_neg (by decide), if_neg (by decide), if_pos rfl] at h; injection h with h; subst h; exact ⟨_, rfl, getu_rest, ent_at (by kernel_rfl)⟩
  by_cases h4 : s = CM.outW
  · subst h4; rw [if_neg (by decide), if_neg (by decide), if_neg (by decide), if_pos rfl] at h; injection h with h; subst h; exact ⟨_, rfl, getu_out, ent_at (by kernel_rfl)⟩
  simp [h1, h2, h3, h4] at h
theorem flag_ent (s : List UInt8) (f : Sv → Bool) (h : CM.flagOf s = some f) : ∃ k, (tabF flagT ⟨s.toArray⟩).getD .nilFunc = fnV k ∧ GetB k f ∧ Ent k := by
  rw [tabF_at]
  unfold CM.flagOf at h
  by_cases h1 : s = CM.substW
  · subst h1; rw [if_pos rfl] at h; injection h with h; subst h; exact ⟨_, rfl, get_subst, ent_at (by kernel_rfl)⟩
  by_cases h2 : s = CM.silentW
  · subst h2; rw [if_neg (by decide), if_pos rfl] at h; injection h with h; subst h; exact ⟨_, rfl, get_silent, ent_at (by kernel_rfl)⟩
  by_cases h3 : s = CM.quitW
  · subst h3; rw [if_neg (by decide), if_neg (by decide), if_pos rfl] at h; injection h with h; subst h; exact ⟨_, rfl, get_quit, ent_at (by kernel_rfl)⟩
  by_cases h4 : s = CM.againW
  · subst h4; rw [if_neg (by decide), if_neg (by decide), if_neg (by decide), if_pos rfl] at h; injection h with h; subst h; exact ⟨_, rfl, get_again, ent_at (by kernel_rfl)⟩
  by_cases h5 : s = CM.failedW
  · subst h5; rw [if_neg (by decide), if_neg (by decide), if_neg (by decide), if_neg (by decide), if_pos rfl] at h; injection h with h; subst h; exact ⟨_, rfl, get_failed, ent_at (by kernel_rfl)⟩
  simp [h1, h2, h3, h4, h5] at h
/-- nothing that was there has turned but what lies up to one block -/
abbrev OlyH (g : Nat) (w w' : World) : Prop := Only (fun k => k ≤ g) w w'
theorem quiet_mn {P : Program} {f : FuncId} {args : Array Value} {w : World} {m x : Nat} {v : Value} (h : ∀ n, Calls P f args (w.drewN n) fun e w' => e = .returned v ∧ ∃ k, w' = (w.drewN n).drewN k) :
    Calls P f args (w.drewN (m + x)) fun e w'' => e = .returned v ∧ ∃ n, w'' = w.drewN (m + n) :=
  (h (m + x)).mono fun _ _ ⟨he, k, hk⟩ => ⟨he, x + k, by rw [hk, World.drewN_drewN, Nat.add_assoc]⟩
theorem quiet_n {P : Program} {f : FuncId} {args : Array Value} {w : World} {x : Nat} {v : Value} (h : ∀ n, Calls P f args (w.drewN n) fun e w' => e = .returned v ∧ ∃ k, w' = (w.drewN n).drewN k) :
    Calls P f args (w.drewN x) fun e w'' => e = .returned v ∧ ∃ n, w'' = w.drewN n :=
  (h x).mono fun _ _ ⟨he, k, hk⟩ => ⟨he, x + k, by rw [hk, World.drewN_drewN]⟩
theorem getn_drew {k : FuncId} {f : Sv → Int} (G : GetN k f) {w : World} {b : Nat} {s : Sv} (h : SvAt w b s) (n : Nat) : Calls Try.prog k #[.pointer (some ⟨b, 0, none⟩)] (w.drewN n) fun e w' => e = .returned (.int .i64 (f s)) ∧ ∃ m, w' = (w.drewN n).drewN m :=
  (G _ b s (h.below (bl_drewN (Below.refl _ _) n))).mono fun e w' he => ⟨he.1, 0, he.2.symm⟩
/-- the cell of internal/bytealg.MaxLen -/
def MxAt (w : World) : Prop := 0 < w.heap.size ∧ ∃ m, w.cell? ⟨0, 0, none⟩ = some (.int .i64 m)
theorem MxAt.below {w w' : World} (h : MxAt w) (hb : Below w.heap.size w w') : MxAt w' := by
  obtain ⟨h0, m, h1⟩ := h
  exact ⟨Nat.lt_of_lt_of_le h0 hb.size, m, (hb.cell (p := ⟨0, 0, none⟩) h0).trans h1⟩
/-- the value v is a function that holds of a state that was and one that is now what phi says -/
def HoldsIs (g : Nat) (phi : CM.M) (v : Value) (W : World) : Prop := ∃ f caps, v = .func (.func f) #[] caps ∧ Ent f ∧ ∀ W', OlyH g W W' → ∀ b1 b2 s1 s2, SvAt W' b1 s1 → SvAt W' b2 s2 → MxAt W' →
  Calls Try.prog f (#[.pointer (some ⟨b1, 0, none⟩), .pointer (some ⟨b2, 0, none⟩)] ++ caps) W' fun e w' => e = .returned (.bool (phi s1 s2)) ∧ ∃ q, w' = W'.drewN q
theorem HoldsIs.lift {g : Nat} {phi : CM.M} {v : Value} {W W' : World} (h : HoldsIs g phi v W) (ho : OlyH g W W') : HoldsIs g phi v W' := by
  obtain ⟨f, caps, e, hE, h⟩ := h
  exact ⟨f, caps, e, hE, fun W2 h2 => h W2 (Only.trans ho h2)⟩
theorem HoldsIs.later {g : Nat} {phi : CM.M} {v : Value} {W W' : World} (h : HoldsIs g phi v W) (ho : Only (fun k => k = g) W W') : HoldsIs g phi v W' := h.lift (ho.mono fun k hk => Nat.le_of_eq hk)
/-- a block that is not the parser's holds what it held -/
theorem oly_cell {g b j : Nat} {W W' : World} (ho : Only (fun k => k = g) W W') (hb : b < W.heap.size) (hn : b ≠ g) : W'.cell? ⟨b, j, none⟩ = W.cell? ⟨b, j, none⟩ := World.cell?_of_block (ho.block b hb hn)
theorem olyh_cell {g b j : Nat} {W W' : World} (ho : OlyH g W W') (hb : b < W.heap.size) (hn : g < b) : W'.cell? ⟨b, j, none⟩ = W.cell? ⟨b, j, none⟩ := World.cell?_of_block (ho.block b hb (Nat.not_le.2 hn))
set_option maxHeartbeats 4000000 in
set_option maxRecDepth 100000 in
theorem HoldsIs.not {g q : Nat} {phi : CM.M} {h : Value} {W : World} (hq : W.cell? ⟨q, 0, none⟩ = some h) (hl : q < W.heap.size) (hn : g < q) (H : HoldsIs g phi h W) :
    HoldsIs g (fun a b => !phi a b) (.func (.func 92) #[] #[.pointer (some ⟨q, 0, none⟩)]) W := by
  refine ⟨_, _, rfl, ent_at (by kernel_rfl), fun W' ho b1 b2 s1 s2 h1 h2 hm => ?_⟩
  have k0 := (olyh_cell (j := 0) ho hl hn).trans hq
  obtain ⟨f, caps, rfl, hE, hc⟩ := H.lift ho
  unfold Ent at hE
  have hcc := Lib.hid (hc W' (Only.refl _ _) b1 b2 s1 s2 h1 h2 hm)
  clear hc h1 h2 hm ho hq H
  change Calls Try.prog _ #[.pointer (some ⟨b1, 0, none⟩), .pointer (some ⟨b2, 0, none⟩), .pointer (some ⟨q, 0, none⟩)] _ _
  go_enter Try.func92, Try.ntmps92
  go_wp2_with ((with_reducible refine hcc.out.mono ?_); rintro e w2 ⟨rfl, q, rfl⟩)
  go_ret
  exact ⟨rfl, _, rfl⟩
set_option maxHeartbeats 4000000 in
set_option maxRecDepth 100000 in
theorem HoldsIs.both {g q r : Nat} {phi psi : CM.M} {h k : Value} {W : World} (hq : W.cell? ⟨q, 0, none⟩ = some h) (hl : q < W.heap.size) (hn : g < q) (H : HoldsIs g phi h W) (hr : W.cell? ⟨r, 0, none⟩ = some k) (hl' : r < W.heap.size) (hn' : g < r) (K : HoldsIs g psi k W) :
    HoldsIs g (fun a b => phi a b && psi a b) (.func (.func 73) #[] #[.pointer (some ⟨q, 0, none⟩), .pointer (some ⟨r, 0, none⟩)]) W := by
  refine ⟨_, _, rfl, ent_at (by kernel_rfl), fun W' ho b1 b2 s1 s2 h1 h2 hm => ?_⟩
  have k0 := (olyh_cell (j := 0) ho hl hn).trans hq
  have k1 := (olyh_cell (j := 0) ho hl' hn').trans hr
  obtain ⟨f, caps, rfl, hE, hc⟩ := H.lift ho
  obtain ⟨f2, caps2, rfl, hE2, hc2⟩ := K.lift ho
  unfold Ent at hE hE2
  have hcc := Lib.hid (hc W' (Only.refl _ _) b1 b2 s1 s2 h1 h2 hm)
  have hcd := Lib.hid (fun n => hc2 (W'.drewN n) (Only.drewN (Only.refl _ _) n) b1 b2 s1 s2 (h1.below (bl_drewN (Below.refl _ _) n)) (h2.below (bl_drewN (Below.refl _ _) n)) (hm.below (bl_drewN (Below.refl _ _) n)))
  clear hc hc2 h1 h2 hm ho hq hr H K hl hl' hn hn'
  change Calls Try.prog _ #[.pointer (some ⟨b1, 0, none⟩), .pointer (some ⟨b2, 0, none⟩), .pointer (some ⟨q, 0, none⟩), .pointer (some ⟨r, 0, none⟩)] _ (fun e w' => e = .returned (.bool (phi s1 s2 && psi s1 s2)) ∧ ∃ q, w' = W'.drewN q)
  generalize phi s1 s2 = B1 at *
  generalize psi s1 s2 = B2 at *
  cases B1
  all_goals
    go_enter Try.func73, Try.ntmps73
    go_wp2_with (first
      | ((with_reducible refine hcc.out.mono ?_); rintro e w2 ⟨rfl, n, rfl⟩)
      | ((with_reducible refine (hcd.out _).mono ?_); rintro e w3 ⟨rfl, m, rfl⟩))
    go_ret
    exact ⟨rfl, _, rfl⟩
set_option maxHeartbeats 4000000 in
set_option maxRecDepth 100000 in
theorem HoldsIs.either {g q r : Nat} {phi psi : CM.M} {h k : Value} {W : World} (hq : W.cell? ⟨q, 0, none⟩ = some h) (hl : q < W.heap.size) (hn : g < q) (H : HoldsIs g phi h W) (hr : W.cell? ⟨r, 0, none⟩ = some k) (hl' : r < W.heap.size) (hn' : g < r) (K : HoldsIs g psi k W) :
    HoldsIs g (fun a b => phi a b || psi a b) (.func (.func 55) #[] #[.pointer (some ⟨q, 0, none⟩), .pointer (some ⟨r, 0, none⟩)]) W := by
  refine ⟨_, _, rfl, ent_at (by kernel_rfl), fun W' ho b1 b2 s1 s2 h1 h2 hm => ?_⟩
  have k0 := (olyh_cell (j := 0) ho hl hn).trans hq
  have k1 := (olyh_cell (j := 0) ho hl' hn').trans hr
  obtain ⟨f, caps, rfl, hE, hc⟩ := H.lift ho
  obtain ⟨f2, caps2, rfl, hE2, hc2⟩ := K.lift ho
  unfold Ent at hE hE2
  have hcc := Lib.hid (hc W' (Only.refl _ _) b1 b2 s1 s2 h1 h2 hm)
  have hcd := Lib.hid (fun n => hc2 (W'.drewN n) (Only.drewN (Only.refl _ _) n) b1 b2 s1 s2 (h1.below (bl_drewN (Below.refl _ _) n)) (h2.below (bl_drewN (Below.refl _ _) n)) (hm.below (bl_drewN (Below.refl _ _) n)))
  clear hc hc2 h1 h2 hm ho hq hr H K hl hl' hn hn'
  change Calls Try.prog _ #[.pointer (some ⟨b1, 0, none⟩), .pointer (some ⟨b2, 0, none⟩), .pointer (some ⟨q, 0, none⟩), .pointer (some ⟨r, 0, none⟩)] _ (fun e w' => e = .returned (.bool (phi s1 s2 || psi s1 s2)) ∧ ∃ q, w' = W'.drewN q)
  generalize phi s1 s2 = B1 at *
  generalize psi s1 s2 = B2 at *
  cases B1
  all_goals
    go_enter Try.func55, Try.ntmps55
    go_wp2_with (first
      | ((with_reducible refine hcc.out.mono ?_); rintro e w2 ⟨rfl, n, rfl⟩)
      | ((with_reducible refine (hcd.out _).mono ?_); rintro e w3 ⟨rfl, m, rfl⟩))
    go_ret
    exact ⟨rfl, _, rfl⟩
set_option maxHeartbeats 4000000 in
set_option maxRecDepth 100000 in
theorem HoldsIs.flag {g q : Nat} {f : Sv → Bool} {k : FuncId} {W : World} (hq : W.cell? ⟨q, 0, none⟩ = some (fnV k)) (hl : q < W.heap.size) (hn : g < q) (G : GetB k f) (hE : Ent k) :
    HoldsIs g (fun _ b => f b) (.func (.func 93) #[] #[.pointer (some ⟨q, 0, none⟩)]) W := by
  refine ⟨_, _, rfl, ent_at (by kernel_rfl), fun W' ho b1 b2 s1 s2 h1 h2 hm => ?_⟩
  have k0 := (olyh_cell (j := 0) ho hl hn).trans hq
  unfold Ent at hE
  unfold fnV at k0
  have hcc := Lib.hid (G W' b2 s2 h2)
  clear h1 h2 hm ho hq
  change Calls Try.prog _ #[.pointer (some ⟨b1, 0, none⟩), .pointer (some ⟨b2, 0, none⟩), .pointer (some ⟨q, 0, none⟩)] _ _
  go_enter Try.func93, Try.ntmps93
  go_wp2_with ((with_reducible refine hcc.out.mono ?_); rintro e w2 ⟨rfl, rfl⟩)
  go_ret
  exact ⟨rfl, 0, rfl⟩
set_option maxHeartbeats 4000000 in
set_option maxRecDepth 100000 in
theorem HoldsIs.phase {g q : Nat} {n : Int} {W : World} (hq : W.cell? ⟨q, 0, none⟩ = some (.int .i64 n)) (hl : q < W.heap.size) (hn : g < q) :
    HoldsIs g (fun _ b => b.phase == n) (.func (.func 107) #[] #[.pointer (some ⟨q, 0, none⟩)]) W := by
  refine ⟨_, _, rfl, ent_at (by kernel_rfl), fun W' ho b1 b2 s1 s2 h1 h2 hm => ?_⟩
  have k0 := (olyh_cell (j := 0) ho hl hn).trans hq
  have k1 := h2.phase
  have k2 := h2.lt
  clear h1 h2 hm ho hq
  change Calls Try.prog _ #[.pointer (some ⟨b1, 0, none⟩), .pointer (some ⟨b2, 0, none⟩), .pointer (some ⟨q, 0, none⟩)] _ _
  go_enter Try.func107, Try.ntmps107
  go_wp2_with (go_quiet (fail))
  go_ret
  exact ⟨rfl, _, rfl⟩
set_option maxHeartbeats 4000000 in
set_option maxRecDepth 100000 in
theorem HoldsIs.numCh {g q : Nat} {f : Sv → Int} {k : FuncId} {W : World} (hq : W.cell? ⟨q, 0, none⟩ = some (fnV k)) (hl : q < W.heap.size) (hn : g < q) (G : GetN k f) (hE : Ent k) :
    HoldsIs g (fun a b => f a != f b) (.func (.func 99) #[] #[.pointer (some ⟨q, 0, none⟩)]) W := by
  refine ⟨_, _, rfl, ent_at (by kernel_rfl), fun W' ho b1 b2 s1 s2 h1 h2 hm => ?_⟩
  have k0 := (olyh_cell (j := 0) ho hl hn).trans hq
  unfold Ent at hE
  unfold fnV at k0
  have hcc := Lib.hid (fun n => getn_drew G h1 n)
  have hcd := Lib.hid (fun n => getn_drew G h2 n)
  clear h1 h2 hm ho hq
  change Calls Try.prog _ #[.pointer (some ⟨b1, 0, none⟩), .pointer (some ⟨b2, 0, none⟩), .pointer (some ⟨q, 0, none⟩)] _ _
  go_enter Try.func99, Try.ntmps99
  go_wp2_with (go_quiet ((first | (with_reducible exact quiet_n hcc.out) | (with_reducible exact quiet_n hcd.out))))
  go_ret
  exact ⟨rfl, _, rfl⟩
end Go.Proofs.Ytlaafamodaogmaa
