/-
  What a condition's function holds of; the closures; of chapter 27.
  Conditions: as each theorem states them.
-/
import Derived.Test.YtcjcflmnghhbaaaGreatCondGw
import Derived.Test.YtcjcflmnghhbaaaGreatConvU
import Derived.Test.YtcjcflmnghhbaaaGreatShelg
namespace Go.Proofs.YtcjcflmnghhbaaaGreat
open Go.RowKit
set_option linter.unusedVariables false
set_option linter.unusedSimpArgs false
open CM (Sv)
/-- a function that is entered -/
def Ent (f : FuncId) : Prop := ∀ (args : Array Value) (w : World), (callFunc f args).run Tryz.prog w = .ok (.enter f args) w
theorem ent_at {f : FuncId} (h : (Tryz.prog.funcs[f]?.map fun fn => (fn.name == "runtime.NumGoroutine", fn.body.isNone)) = some (false, false)) : Ent f := fun args w => by
  cases hf : Tryz.prog.funcs[f]? with
  | none => rw [hf] at h; cases h
  | some fn =>
    rw [hf] at h
    simp only [Option.map_some, Option.some.injEq, Prod.mk.injEq] at h
    show (Sem.run _ _ _) = _
    have h1 : ¬ fn.name = "runtime.NumGoroutine" := by simpa using h.1
    have h2 : ¬ fn.body = none := by intro e; rw [e] at h; simp at h
    simp only [callFunc]
    simp [hf, Result.andThen]
    rw [if_neg h1, if_neg h2]
/-- what the tables give -/
theorem num_ent (s : List UInt8) (f : Sv → Int) (h : CM.numOf s = some f) : ∃ k, (tabF numT ⟨s.toArray⟩).getD .nilFunc = fnV k ∧ GetN k f ∧ Ent k := by
  rw [tabF_at]
  unfold CM.numOf at h
  by_cases h1 : s = CM.lineW
  · subst h1; rw [if_pos rfl] at h; injection h with h; subst h; exact ⟨_, rfl, get_line, ent_at (by kernel_rfl)⟩
  by_cases h2 : s = CM.pcW
  · subst h2; rw [if_neg (by decide), if_pos rfl] at h; injection h with h; subst h; exact ⟨_, rfl, get_pc, ent_at (by kernel_rfl)⟩
  by_cases h3 : s = CM.exitW
  · subst h3; rw [if_neg (by decide), if_neg (by decide), if_pos rfl] at h; injection h with h; subst h; exact ⟨_, rfl, get_exit, ent_at (by kernel_rfl)⟩
  by_cases h4 : s = CM.waitsW
  · subst h4; rw [if_neg (by decide), if_neg (by decide), if_neg (by decide), if_pos rfl] at h; injection h with h; subst h; exact ⟨_, rfl, get_waits, ent_at (by kernel_rfl)⟩
  simp [h1, h2, h3, h4] at h
/-- a function that gives a text of a state -/
def GetU (k : FuncId) (f : Sv → List UInt8) : Prop := ∀ (w : World) b s, SvAt w b s → ∃ a c, (f s).length ≤ c ∧ BytesAt w a (f s) ∧ (f s).length ≤ 100000 ∧ ∀ n, Calls Tryz.prog k #[.pointer (some ⟨b, 0, none⟩)] (w.drewN n) fun e w' => e = .returned (.slice a (f s).length c) ∧ ∃ m, w' = (w.drewN n).drewN m
theorem getu_pattern : GetU 75 (·.pattern) := by
  intro w b s h
  obtain ⟨a, c, k0, h2, h3, h4⟩ := h.pattern
  refine ⟨a, c, h2, h3, h4, fun n => ?_⟩
  go_enter Tryz.func75, Tryz.ntmps75
  go_wp2_with fail
  go_ret
  exact ⟨rfl, 0, rfl⟩
theorem getu_hold : GetU 76 (·.hold) := by
  intro w b s h
  obtain ⟨a, c, k0, h2, h3, h4⟩ := h.hold
  refine ⟨a, c, h2, h3, h4, fun n => ?_⟩
  go_enter Tryz.func76, Tryz.ntmps76
  go_wp2_with fail
  go_ret
  exact ⟨rfl, 0, rfl⟩
theorem getu_rest : GetU 77 (·.rest) := by
  intro w b s h
  obtain ⟨a, c, k0, h2, h3, h4⟩ := h.rest
  refine ⟨a, c, h2, h3, h4, fun n => ?_⟩
  go_enter Tryz.func77, Tryz.ntmps77
  go_wp2_with fail
  go_ret
  exact ⟨rfl, 0, rfl⟩
theorem getu_out : GetU 78 (·.out) := by
  intro w b s h
  obtain ⟨a, c, k0, h2, h3, h4⟩ := h.out
  refine ⟨a, c, h2, h3, h4, fun n => ?_⟩
  go_enter Tryz.func78, Tryz.ntmps78
  go_wp2_with fail
  go_ret
  exact ⟨rfl, 0, rfl⟩
theorem txt_ent (s : List UInt8) (f : Sv → List UInt8) (h : CM.txtOf s = some f) : ∃ k, (tabF txtT ⟨s.toArray⟩).getD .nilFunc = fnV k ∧ GetU k f ∧ Ent k := by
  rw [tabF_at]
  unfold CM.txtOf at h
  by_cases h1 : s = CM.patternW
  · subst h1; rw [if_pos rfl] at h; injection h with h; subst h; exact ⟨_, rfl, getu_pattern, ent_at (by kernel_rfl)⟩
  by_cases h2 : s = CM.holdW
  · subst h2; rw [if_neg (by decide), if_pos rfl] at h; injection h with h; subst h; exact ⟨_, rfl, getu_hold, ent_at (by kernel_rfl)⟩
  by_cases h3 : s = CM.restW
  · subst h3; rw [if_neg (by decide), if_neg (by decide), if_pos rfl] at h; injection h with h; subst h; exact ⟨_, rfl, getu_rest, ent_at (by kernel_rfl)⟩
  by_cases h4 : s = CM.outW
  · subst h4; rw [if_neg (by decide), if_neg (by decide), if_neg (by decide), if_pos rfl] at h; injection h with h; subst h; exact ⟨_, rfl, getu_out, ent_at (by kernel_rfl)⟩
  simp [h1, h2, h3, h4] at h
theorem flag_ent (s : List UInt8) (f : Sv → Bool) (h : CM.flagOf s = some f) : ∃ k, (tabF flagT ⟨s.toArray⟩).getD .nilFunc = fnV k ∧ GetB k f ∧ Ent k := by
  rw [tabF_at]
  unfold CM.flagOf at h
  by_cases h1 : s = CM.substW
  · subst h1; rw [if_pos rfl] at h; injection h with h; subst h; exact ⟨_, rfl, get_subst, ent_at (by kernel_rfl)⟩
  by_cases h2 : s = CM.silentW
  · subst h2; rw [if_neg (by decide), if_pos rfl] at h; injection h with h; subst h; exact ⟨_, rfl, get_silent, ent_at (by kernel_rfl)⟩
  by_cases h3 : s = CM.quitW
  · subst h3; rw [if_neg (by decide), if_neg (by decide), if_pos rfl] at h; injection h with h; subst h; exact ⟨_, rfl, get_quit, ent_at (by kernel_rfl)⟩
  by_cases h4 : s = CM.againW
  · subst h4; rw [if_neg (by decide), if_neg (by decide), if_neg (by decide), if_pos rfl] at h; injection h with h; subst h; exact ⟨_, rfl, get_again, ent_at (by kernel_rfl)⟩
  by_cases h5 : s = CM.failedW
  · subst h5; rw [if_neg (by decide), if_neg (by decide), if_neg (by decide), if_neg (by decide), if_pos rfl] at h; injection h with h; subst h; exact ⟨_, rfl, get_failed, ent_at (by kernel_rfl)⟩
  simp [h1, h2, h3, h4, h5] at h
/-- nothing that was there has turned but what lies up to one block -/
abbrev OlyH (g : Nat) (w w' : World) : Prop := Only (fun k => k ≤ g) w w'
theorem quiet_mn {P : Program} {f : FuncId} {args : Array Value} {w : World} {m x : Nat} {v : Value} (h : ∀ n, Calls P f args (w.drewN n) fun e w' => e = .returned v ∧ ∃ k, w' = (w.drewN n).drewN k) :
    Calls P f args (w.drewN (m + x)) fun e w'' => e = .returned v ∧ ∃ n, w'' = w.drewN (m + n) :=
  (h (m + x)).mono fun _ _ ⟨he, k, hk⟩ => ⟨he, x + k, by rw [hk, World.drewN_drewN, Nat.add_assoc]⟩
theorem quiet_n {P : Program} {f : FuncId} {args : Array Value} {w : World} {x : Nat} {v : Value} (h : ∀ n, Calls P f args (w.drewN n) fun e w' => e = .returned v ∧ ∃ k, w' = (w.drewN n).drewN k) :
    Calls P f args (w.drewN x) fun e w'' => e = .returned v ∧ ∃ n, w'' = w.drewN n :=
  (h x).mono fun _ _ ⟨he, k, hk⟩ => ⟨he, x + k, by rw [hk, World.drewN_drewN]⟩
theorem getn_drew {k : FuncId} {f : Sv → Int} (G : GetN k f) {w : World} {b : Nat} {s : Sv} (h : SvAt w b s) (n : Nat) : Calls Tryz.prog k #[.pointer (some ⟨b, 0, none⟩)] (w.drewN n) fun e w' => e = .returned (.int .i64 (f s)) ∧ ∃ m, w' = (w.drewN n).drewN m :=
  (G _ b s (h.below (bl_drewN (Below.refl _ _) n))).mono fun e w' he => ⟨he.1, 0, he.2.symm⟩
/-- the cell of internal/bytealg.MaxLen -/
def MxAt (w : World) : Prop := 0 < w.heap.size ∧ ∃ m, w.cell? ⟨0, 0, none⟩ = some (.int .i64 m)
theorem MxAt.below {w w' : World} (h : MxAt w) (hb : Below w.heap.size w w') : MxAt w' := by
  obtain ⟨h0, m, h1⟩ := h
  exact ⟨Nat.lt_of_lt_of_le h0 hb.size, m, (hb.cell (p := ⟨0, 0, none⟩) h0).trans h1⟩
/-- the value v is a function that holds of a state that was and one that is now what phi says -/
def HoldsIs (g : Nat) (phi : CM.M) (v : Value) (W : World) : Prop := ∃ f caps, v = .func (.func f) #[] caps ∧ Ent f ∧ ∀ W', OlyH g W W' → ∀ b1 b2 s1 s2, SvAt W' b1 s1 → SvAt W' b2 s2 → MxAt W' →
  Calls Tryz.prog f (#[.pointer (some ⟨b1, 0, none⟩), .pointer (some ⟨b2, 0, none⟩)] ++ caps) W' fun e w' => e = .returned (.bool (phi s1 s2)) ∧ ∃ q, w' = W'.drewN q
theorem HoldsIs.lift {g : Nat} {phi : CM.M} {v : Value} {W W' : World} (h : HoldsIs g phi v W) (ho : OlyH g W W') : HoldsIs g phi v W' := by
  obtain ⟨f, caps, e, hE, h⟩ := h
  exact ⟨f, caps, e, hE, fun W2 h2 => h W2 (Only.trans ho h2)⟩
theorem HoldsIs.later {g : Nat} {phi : CM.M} {v : Value} {W W' : World} (h : HoldsIs g phi v W) (ho : Only (fun k => k = g) W W') : HoldsIs g phi v W' := h.lift (ho.mono fun k hk => Nat.le_of_eq hk)
/-- a block that is not the parser's holds what it held -/
theorem oly_cell {g b j : Nat} {W W' : World} (ho : Only (fun k => k = g) W W') (hb : b < W.heap.size) (hn : b ≠ g) : W'.cell? ⟨b, j, none⟩ = W.cell? ⟨b, j, none⟩ := World.cell?_of_block (ho.block b hb hn)
theorem olyh_cell {g b j : Nat} {W W' : World} (ho : OlyH g W W') (hb : b < W.heap.size) (hn : g < b) : W'.cell? ⟨b, j, none⟩ = W.cell? ⟨b, j, none⟩ := World.cell?_of_block (ho.block b hb (Nat.not_le.2 hn))
set_option maxHeartbeats 4000000 in
set_option maxRecDepth 100000 in
theorem HoldsIs.not {g q : Nat} {phi : CM.M} {h : Value} {W : World} (hq : W.cell? ⟨q, 0, none⟩ = some h) (hl : q < W.heap.size) (hn : g < q) (H : HoldsIs g phi h W) :
    HoldsIs g (fun a b => !phi a b) (.func (.func 88) #[] #[.pointer (some ⟨q, 0, none⟩)]) W := by
  refine ⟨_, _, rfl, ent_at (by kernel_rfl), fun W' ho b1 b2 s1 s2 h1 h2 hm => ?_⟩
  have k0 := (olyh_cell (j := 0) ho hl hn).trans hq
  obtain ⟨f, caps, rfl, hE, hc⟩ := H.lift ho
  unfold Ent at hE
  have hcc := Lib.hid (hc W' (Only.refl _ _) b1 b2 s1 s2 h1 h2 hm)
  clear hc h1 h2 hm ho hq H
  change Calls Tryz.prog _ #[.pointer (some ⟨b1, 0, none⟩), .pointer (some ⟨b2, 0, none⟩), .pointer (some ⟨q, 0, none⟩)] _ _
  go_enter Tryz.func88, Tryz.ntmps88
  go_wp2_with ((with_reducible refine hcc.out.mono ?_); rintro e w2 ⟨rfl, q, rfl⟩)
  go_ret
  exact ⟨rfl, _, rfl⟩
set_option maxHeartbeats 4000000 in
set_option maxRecDepth 100000 in
theorem HoldsIs.both {g q r : Nat} {phi psi : CM.M} {h k : Value} {W : World} (hq : W.cell? ⟨q, 0, none⟩ = some h) (hl : q < W.heap.size) (hn : g < q) (H : HoldsIs g phi h W) (hr : W.cell? ⟨r, 0, none⟩ = some k) (hl' : r < W.heap.size) (hn' : g < r) (K : HoldsIs g psi k W) :
    HoldsIs g (fun a b => phi a b && psi a b) (.func (.func 68) #[] #[.pointer (some ⟨q, 0, none⟩), .pointer (some ⟨r, 0, none⟩)]) W := by
  refine ⟨_, _, rfl, ent_at (by kernel_rfl), fun W' ho b1 b2 s1 s2 h1 h2 hm => ?_⟩
  have k0 := (olyh_cell (j := 0) ho hl hn).trans hq
  have k1 := (olyh_cell (j := 0) ho hl' hn').trans hr
  obtain ⟨f, caps, rfl, hE, hc⟩ := H.lift ho
  obtain ⟨f2, caps2, rfl, hE2, hc2⟩ := K.lift ho
  unfold Ent at hE hE2
  have hcc := Lib.hid (hc W' (Only.refl _ _) b1 b2 s1 s2 h1 h2 hm)
  have hcd := Lib.hid (fun n => hc2 (W'.drewN n) (Only.drewN (Only.refl _ _) n) b1 b2 s1 s2 (h1.below (bl_drewN (Below.refl _ _) n)) (h2.below (bl_drewN (Below.refl _ _) n)) (hm.below (bl_drewN (Below.refl _ _) n)))
  clear hc hc2 h1 h2 hm ho hq hr H K hl hl' hn hn'
  change Calls Tryz.prog _ #[.pointer (some ⟨b1, 0, none⟩), .pointer (some ⟨b2, 0, none⟩), .pointer (some ⟨q, 0, none⟩), .pointer (some ⟨r, 0, none⟩)] _ (fun e w' => e = .returned (.bool (phi s1 s2 && psi s1 s2)) ∧ ∃ q, w' = W'.drewN q)
  generalize phi s1 s2 = B1 at *
  generalize psi s1 s2 = B2 at *
  cases B1
  all_goals
    go_enter Tryz.func68, Tryz.ntmps68
    go_wp2_with (first
      | ((with_reducible refine hcc.out.mono ?_); rintro e w2 ⟨rfl, n, rfl⟩)
      | ((with_reducible refine (hcd.out _).mono ?_); rintro e w3 ⟨rfl, m, rfl⟩))
    go_ret
    exact ⟨rfl, _, rfl⟩
set_option maxHeartbeats 4000000 in
set_option maxRecDepth 100000 in
theorem HoldsIs.either {g q r : Nat} {phi psi : CM.M} {h k : Value} {W : World} (hq : W.cell? ⟨q, 0, none⟩ = some h) (hl : q < W.heap.size) (hn : g < q) (H : HoldsIs g phi h W) (hr : W.cell? ⟨r, 0, none⟩ = some k) (hl' : r < W.heap.size) (hn' : g < r) (K : HoldsIs g psi k W) :
    HoldsIs g (fun a b => phi a b || psi a b) (.func (.func 52) #[] #[.pointer (some ⟨q, 0, none⟩), .pointer (some ⟨r, 0, none⟩)]) W := by
  refine ⟨_, _, rfl, ent_at (by kernel_rfl), fun W' ho b1 b2 s1 s2 h1 h2 hm => ?_⟩
  have k0 := (olyh_cell (j := 0) ho hl hn).trans hq
  have k1 := (olyh_cell (j := 0) ho hl' hn').trans hr
  obtain ⟨f, caps, rfl, hE, hc⟩ := H.lift ho
  obtain ⟨f2, caps2, rfl, hE2, hc2⟩ := K.lift ho
  unfold Ent at hE hE2
  have hcc := Lib.hid (hc W' (Only.refl _ _) b1 b2 s1 s2 h1 h2 hm)
  have hcd := Lib.hid (fun n => hc2 (W'.drewN n) (Only.drewN (Only.refl _ _) n) b1 b2 s1 s2 (h1.below (bl_drewN (Below.refl _ _) n)) (h2.below (bl_drewN (Below.refl _ _) n)) (hm.below (bl_drewN (Below.refl _ _) n)))
  clear hc hc2 h1 h2 hm ho hq hr H K hl hl' hn hn'
  change Calls Tryz.prog _ #[.pointer (some ⟨b1, 0, none⟩), .pointer (some ⟨b2, 0, none⟩), .pointer (some ⟨q, 0, none⟩), .pointer (some ⟨r, 0, none⟩)] _ (fun e w' => e = .returned (.bool (phi s1 s2 || psi s1 s2)) ∧ ∃ q, w' = W'.drewN q)
  generalize phi s1 s2 = B1 at *
  generalize psi s1 s2 = B2 at *
  cases B1
  all_goals
    go_enter Tryz.func52, Tryz.ntmps52
    go_wp2_with (first
      | ((with_reducible refine hcc.out.mono ?_); rintro e w2 ⟨rfl, n, rfl⟩)
      | ((with_reducible refine (hcd.out _).mono ?_); rintro e w3 ⟨rfl, m, rfl⟩))
    go_ret
    exact ⟨rfl, _, rfl⟩
set_option maxHeartbeats 4000000 in
set_option maxRecDepth 100000 in
theorem HoldsIs.flag {g q : Nat} {f : Sv → Bool} {k : FuncId} {W : World} (hq : W.cell? ⟨q, 0, none⟩ = some (fnV k)) (hl : q < W.heap.size) (hn : g < q) (G : GetB k f) (hE : Ent k) :
    HoldsIs g (fun _ b => f b) (.func (.func 89) #[] #[.pointer (some ⟨q, 0, none⟩)]) W := by
  refine ⟨_, _, rfl, ent_at (by kernel_rfl), fun W' ho b1 b2 s1 s2 h1 h2 hm => ?_⟩
  have k0 := (olyh_cell (j := 0) ho hl hn).trans hq
  unfold Ent at hE
  unfold fnV at k0
  have hcc := Lib.hid (G W' b2 s2 h2)
  clear h1 h2 hm ho hq
  change Calls Tryz.prog _ #[.pointer (some ⟨b1, 0, none⟩), .pointer (some ⟨b2, 0, none⟩), .pointer (some ⟨q, 0, none⟩)] _ _
  go_enter Tryz.func89, Tryz.ntmps89
  go_wp2_with ((with_reducible refine hcc.out.mono ?_); rintro e w2 ⟨rfl, rfl⟩)
  go_ret
  exact ⟨rfl, 0, rfl⟩
set_option maxHeartbeats 4000000 in
set_option maxRecDepth 100000 in
theorem HoldsIs.phase {g q : Nat} {n : Int} {W : World} (hq : W.cell? ⟨q, 0, none⟩ = some (.int .i64 n)) (hl : q < W.heap.size) (hn : g < q) :
    HoldsIs g (fun _ b => b.phase == n) (.func (.func 103) #[] #[.pointer (some ⟨q, 0, none⟩)]) W := by
  refine ⟨_, _, rfl, ent_at (by kernel_rfl), fun W' ho b1 b2 s1 s2 h1 h2 hm => ?_⟩
  have k0 := (olyh_cell (j := 0) ho hl hn).trans hq
  have k1 := h2.phase
  have k2 := h2.lt
  clear h1 h2 hm ho hq
  change Calls Tryz.prog _ #[.pointer (some ⟨b1, 0, none⟩), .pointer (some ⟨b2, 0, none⟩), .pointer (some ⟨q, 0, none⟩)] _ _
  go_enter Tryz.func103, Tryz.ntmps103
  go_wp2_with (go_quiet (fail))
  go_ret
  exact ⟨rfl, _, rfl⟩
set_option maxHeartbeats 4000000 in
set_option maxRecDepth 100000 in
theorem HoldsIs.numCh {g q : Nat} {f : Sv → Int} {k : FuncId} {W : World} (hq : W.cell? ⟨q, 0, none⟩ = some (fnV k)) (hl : q < W.heap.size) (hn : g < q) (G : GetN k f) (hE : Ent k) :
    HoldsIs g (fun a b => f a != f b) (.func (.func 95) #[] #[.pointer (some ⟨q, 0, none⟩)]) W := by
  refine ⟨_, _, rfl, ent_at (by kernel_rfl), fun W' ho b1 b2 s1 s2 h1 h2 hm => ?_⟩
  have k0 := (olyh_cell (j := 0) ho hl hn).trans hq
  unfold Ent at hE
  unfold fnV at k0
  have hcc := Lib.hid (fun n => getn_drew G h1 n)
  have hcd := Lib.hid (fun n => getn_drew G h2 n)
  clear h1 h2 hm ho hq
  change Calls Tryz.prog _ #[.pointer (some ⟨b1, 0, none⟩), .pointer (some ⟨b2, 0, none⟩), .pointer (some ⟨q, 0, none⟩)] _ _
  go_enter Tryz.func95, Tryz.ntmps95
  go_wp2_with (go_quiet ((first | (with_reducible exact quiet_n hcc.out) | (with_reducible exact quiet_n hcd.out))))
  go_ret
  exact ⟨rfl, _, rfl⟩
end Go.Proofs.YtcjcflmnghhbaaaGreat
/-
  What a condition's function holds of: numbers, texts; of chapter 27.
  Conditions: as each theorem states them.
-/
namespace Go.Proofs.YtcjcflmnghhbaaaGreat
open Go.RowKit
set_option linter.unusedVariables false
set_option linter.unusedSimpArgs false
open CM (Sv)
theorem eqs_false {x : List UInt8} {k : List UInt8} (h : ¬ x = k) : (x == k) = false := by simpa using h
set_option maxHeartbeats 4000000 in
set_option maxRecDepth 100000 in
theorem HoldsIs.numCmp {g q r t : Nat} {f : Sv → Int} {k : FuncId} {n : Int} {sg : List UInt8} {W : World} (hq : W.cell? ⟨q, 0, none⟩ = some (fnV k)) (hl : q < W.heap.size) (hn : g < q) (G : GetN k f) (hE : Ent k)
    (hr : W.cell? ⟨r, 0, none⟩ = some (.int .i64 n)) (hl' : r < W.heap.size) (hn' : g < r) (ht : W.cell? ⟨t, 0, none⟩ = some (strV sg)) (hl2 : t < W.heap.size) (hn2 : g < t) :
    HoldsIs g (fun _ b => CM.signOf sg (f b) n) (.func (.func 97) #[] #[.pointer (some ⟨q, 0, none⟩), .pointer (some ⟨r, 0, none⟩), .pointer (some ⟨t, 0, none⟩)]) W := by
  refine ⟨_, _, rfl, ent_at (by kernel_rfl), fun W' ho b1 b2 s1 s2 h1 h2 hm => ?_⟩
  have k0 := (olyh_cell (j := 0) ho hl hn).trans hq
  have k1 := (olyh_cell (j := 0) ho hl' hn').trans hr
  have k2 := (olyh_cell (j := 0) ho hl2 hn2).trans ht
  unfold Ent at hE
  unfold fnV at k0
  have hcc := Lib.hid (G W' b2 s2 h2)
  clear h1 h2 hm ho hq hr ht hl hl' hl2 hn hn' hn2
  change Calls Tryz.prog _ #[.pointer (some ⟨b1, 0, none⟩), .pointer (some ⟨b2, 0, none⟩), .pointer (some ⟨q, 0, none⟩), .pointer (some ⟨r, 0, none⟩), .pointer (some ⟨t, 0, none⟩)] _ (fun e w' => e = .returned (.bool (CM.signOf sg (f s2) n)) ∧ ∃ q, w' = W'.drewN q)
  generalize f s2 = x at *
  obtain ⟨R, hR⟩ : ∃ R, CM.signOf sg x n = R := ⟨_, rfl⟩
  rw [hR]
  unfold CM.signOf at hR
  rcases Int.lt_trichotomy x n with h | h | h
  · have e1 : (x == n) = false := by simp; omega
    have e2 : decide (x < n) = true := by simpa using h
    have e3 : decide (n < x) = false := by simp; omega
    clear h
    rw [e1, e2, e3] at hR
    simp only [Bool.false_and, Bool.true_and, Bool.false_or, Bool.or_false] at hR
    replace hR := Lib.hid hR
    go_enter Tryz.func97, Tryz.ntmps97
    go_wp2_with ((with_reducible refine hcc.out.mono ?_); rintro e w2 ⟨rfl, rfl⟩)
    all_goals go_ret
    all_goals (refine ⟨?_, 0, rfl⟩)
    all_goals (rw [← hR.out]; go_light)
    all_goals simp_all
  · have e1 : (x == n) = true := by simpa using h
    have e2 : decide (x < n) = false := by simp; omega
    have e3 : decide (n < x) = false := by simp; omega
    clear h
    rw [e1, e2, e3] at hR
    simp only [Bool.false_and, Bool.true_and, Bool.false_or, Bool.or_false] at hR
    replace hR := Lib.hid hR
    go_enter Tryz.func97, Tryz.ntmps97
    go_wp2_with ((with_reducible refine hcc.out.mono ?_); rintro e w2 ⟨rfl, rfl⟩)
    all_goals go_ret
    all_goals (refine ⟨?_, 0, rfl⟩)
    all_goals (rw [← hR.out]; go_light)
    all_goals simp_all
  · have e1 : (x == n) = false := by simp; omega
    have e2 : decide (x < n) = false := by simp; omega
    have e3 : decide (n < x) = true := by simpa using h
    clear h
    rw [e1, e2, e3] at hR
    simp only [Bool.false_and, Bool.true_and, Bool.false_or, Bool.or_false] at hR
    replace hR := Lib.hid hR
    go_enter Tryz.func97, Tryz.ntmps97
    go_wp2_with ((with_reducible refine hcc.out.mono ?_); rintro e w2 ⟨rfl, rfl⟩)
    all_goals go_ret
    all_goals (refine ⟨?_, 0, rfl⟩)
    all_goals (rw [← hR.out]; go_light)
    all_goals simp_all
theorem bytesOf_map (xs : List UInt8) : Lib.bytesOf (xs.map fun x => (x.toNat : Int)) = xs := by
  unfold Lib.bytesOf
  rw [List.map_map]
  conv => rhs; rw [← List.map_id xs]
  exact List.map_congr_left fun x _ => by simp
theorem strOfB (xs : List UInt8) : strOfNums (xs.map fun x => (x.toNat : Int)) = ⟨xs.toArray⟩ := by
  unfold strOfNums
  congr 2
  rw [List.map_map]
  conv => rhs; rw [← List.map_id xs]
  exact List.map_congr_left fun x _ => by simp
/-- 'string(b)' -/
theorem conv_str {w : World} {a : Option Addr} {xs : List UInt8} (h : BytesAt w a xs) (c : Nat) : (convert 23 9 (.slice a xs.length c)).run Tryz.prog w = .ok (.string ⟨xs.toArray⟩) w := by
  rcases Nat.eq_zero_or_pos xs.length with h0 | h0
  · obtain rfl : xs = [] := List.eq_nil_of_length_eq_zero h0
    rw [run_convert_bytes_string w 23 9 5 _ _ c Tryz.underlying23 Tryz.underlying5 Tryz.underlying9]
    cases a <;> simp [Conv.bytesToString, loadCells]
    all_goals rfl
  · obtain ⟨b, o, rfl, l, r⟩ := h h0
    rw [run_convert_bytes_arg (P := Tryz.prog) w 23 5 Tryz.underlying23 Tryz.underlying5 b o xs.length c (xs.map fun x => (x.toNat : Int)) (by simp) (fun i hi => by rw [r i hi]; simp [List.getD, hi]) 9 Tryz.underlying9, strOfB]
theorem equal_at {w : World} {a b : Option Addr} {xs ys : List UInt8} (hx : BytesAt w a xs) (hy : BytesAt w b ys) (c d : Nat) :
    Calls Tryz.prog 99 #[.slice a xs.length c, .slice b ys.length d] w fun e w' => e = .returned (.bool (xs == ys)) ∧ w' = w := by
  have h := Tryz.bytes_Equal_strs _ _ _ _ w (conv_str hx c) (conv_str hy d)
  rw [ba_list, ba_list] at h
  exact h
set_option maxHeartbeats 4000000 in
set_option maxRecDepth 100000 in
theorem indexByte_empty (a : Option Addr) (c : Nat) (cv : Int) (w : World) : Calls Tryz.prog 106 #[.slice a 0 c, .int .u8 cv] w fun e w' => e = .returned (.int .i64 (-1)) ∧ w = w' := by
  have hx : (Extern.BytealgIndexByte.indexByte #[.slice a 0 c, .int .u8 cv]).run Tryz.prog w = .ok (.int .i64 (-1)) w := by
    cases a with
    | none => exact Lib.run_indexByteNil w 0 c cv
    | some a => exact Lib.run_indexByteAt w a 0 c [] rfl (fun i h => absurd h (by omega)) cv
  go_enter Tryz.func106, Tryz.ntmps106
  go_wp2
  rw [run_callFunc_extern Tryz.func110 (by kernel_rfl) (by kernel_rfl) (by kernel_rfl) (e := Extern.BytealgIndexByte.indexByte) (by kernel_rfl), hx]
  simp only [Result.andThen]
  rw [Oper.upon_value]
  go_wp2
  go_ret
  exact ⟨rfl, rfl⟩
set_option maxHeartbeats 4000000 in
set_option maxRecDepth 100000 in
theorem index_empty (a : Option Addr) (c b2 o2 d : Nat) (cv : Int) (w : World) (hc : w.cell? ⟨b2, o2, none⟩ = some (.int .u8 cv)) : Calls Tryz.prog 105 #[.slice a 0 c, .slice (some ⟨b2, o2, none⟩) 1 d] w fun e w' => e = .returned (.int .i64 (-1)) ∧ w = w' := by
  have hi := Lib.hid (indexByte_empty a c cv w)
  go_enter Tryz.func105, Tryz.ntmps105
  go_wp2_with (go_at_call 106; refine hi.out.mono ?_; rintro e w2 ⟨rfl, rfl⟩)
  go_ret
  exact ⟨rfl, rfl⟩
set_option maxHeartbeats 4000000 in
set_option maxRecDepth 100000 in
theorem contains_empty (a : Option Addr) (c b2 o2 d : Nat) (cv : Int) (w : World) (hc : w.cell? ⟨b2, o2, none⟩ = some (.int .u8 cv)) : Calls Tryz.prog 101 #[.slice a 0 c, .slice (some ⟨b2, o2, none⟩) 1 d] w fun e w' => e = .returned (.bool false) ∧ w = w' := by
  have hi := Lib.hid (index_empty a c b2 o2 d cv w hc)
  clear hc
  go_enter Tryz.func101, Tryz.ntmps101
  go_wp2_with (go_at_call 105; refine hi.out.mono ?_; rintro e w2 ⟨rfl, rfl⟩)
  go_ret
  exact ⟨rfl, rfl⟩
theorem getD_nums (l : List UInt8) (i : Nat) (h : i < l.length) : (l.map fun x => (x.toNat : Int)).getD i 0 = (l[i].toNat : Int) := by simp [List.getD, h]
theorem has_nil (xs : List UInt8) : CM.hasS xs [] = true := by
  unfold CM.hasS
  cases xs <;> simp [Lib.index]
theorem nil_has {y : UInt8} {ys : List UInt8} : CM.hasS [] (y :: ys) = false := by
  unfold CM.hasS
  simp [Lib.index]
theorem contains_at {w : World} {a b : Option Addr} {xs ys : List UInt8} (hx : BytesAt w a xs) (hy : BytesAt w b ys) (c d : Nat) (hc : xs.length ≤ c) (hl : xs.length ≤ 100000) (hl2 : ys.length ≤ 100000) (hm : MxAt w) :
    Calls Tryz.prog 101 #[.slice a xs.length c, .slice b ys.length d] w fun e w' => e = .returned (.bool (CM.hasS xs ys)) ∧ ∃ q, w' = w.drewN q := by
  cases ys with
  | nil =>
    rw [has_nil]
    exact (Tryz.bytes_Contains_none a b xs.length c d w).mono fun e w' he => ⟨he.1, 0, he.2⟩
  | cons y ys =>
    obtain ⟨b2, o2, rfl, hb2, hr2⟩ := hy (by simp)
    cases xs with
    | nil =>
      rw [nil_has]
      cases ys with
      | nil =>
        have h0 := hr2 0 (by simp)
        exact (contains_empty a c b2 o2 d _ w h0).mono fun e w' he => ⟨he.1, 0, he.2.symm⟩
      | cons z ys => exact (Tryz.bytes_Contains_longer a (some ⟨b2, o2, none⟩) 0 c _ d w (by simp) (by simp) (by simp only [List.length_cons] at hl2 ⊢; omega)).mono fun e w' he => ⟨he.1, 0, he.2⟩
    | cons x xs =>
      obtain ⟨b1, o1, rfl, hb1, hr1⟩ := hx (by simp)
      obtain ⟨_, m, hm⟩ := hm
      have ha : ∀ (bb oo i : Nat), (⟨bb, oo, none⟩ : Addr).add i = ⟨bb, oo + i, none⟩ := Lib.add_plain'
      have hu : ∀ (l : List UInt8), ∀ z ∈ l.map fun x => (x.toNat : Int), 0 ≤ z ∧ z < 256 := fun l z hz => by
        obtain ⟨q, _, rfl⟩ := List.mem_map.1 hz
        have := q.toNat_lt
        omega
      have h := Tryz.bytes_Contains_at ⟨b1, o1, none⟩ ⟨b2, o2, none⟩ (x :: xs).length c (y :: ys).length d ((x :: xs).map fun x => (x.toNat : Int)) ((y :: ys).map fun x => (x.toNat : Int)) m w (by simp) (by simp) (hu _) (hu _)
        (fun i hi => by rw [ha, hr1 i hi, getD_nums _ i hi]) (fun i hi => by rw [ha, hr2 i hi, getD_nums _ i hi]) hc (by omega) (by omega) hm
      rw [bytesOf_map, bytesOf_map] at h
      exact h
set_option maxHeartbeats 4000000 in
set_option maxRecDepth 100000 in
theorem HoldsIs.txtCh {g q : Nat} {f : Sv → List UInt8} {k : FuncId} {W : World} (hq : W.cell? ⟨q, 0, none⟩ = some (fnV k)) (hl : q < W.heap.size) (hn : g < q) (G : GetU k f) (hE : Ent k) :
    HoldsIs g (fun a b => !(f a == f b)) (.func (.func 98) #[] #[.pointer (some ⟨q, 0, none⟩)]) W := by
  refine ⟨_, _, rfl, ent_at (by kernel_rfl), fun W' ho b1 b2 s1 s2 h1 h2 hm => ?_⟩
  have k0 := (olyh_cell (j := 0) ho hl hn).trans hq
  unfold Ent at hE
  unfold fnV at k0
  obtain ⟨a1, c1, _, x1, l1, hcc⟩ := G W' b1 s1 h1
  obtain ⟨a2, c2, _, x2, l2, hcd⟩ := G W' b2 s2 h2
  have heq : ∀ n, Calls Tryz.prog 99 #[.slice a1 (f s1).length c1, .slice a2 (f s2).length c2] (W'.drewN n) fun e w' => e = .returned (.bool (f s1 == f s2)) ∧ ∃ m, w' = (W'.drewN n).drewN m := fun n => (equal_at (x1.below (bl_drewN (Below.refl _ _) n)) (x2.below (bl_drewN (Below.refl _ _) n)) c1 c2).mono fun e w' he => ⟨he.1, 0, he.2⟩
  replace hcc := Lib.hid hcc
  replace hcd := Lib.hid hcd
  replace heq := Lib.hid heq
  clear h1 h2 hm ho hq x1 x2 l1 l2
  change Calls Tryz.prog _ #[.pointer (some ⟨b1, 0, none⟩), .pointer (some ⟨b2, 0, none⟩), .pointer (some ⟨q, 0, none⟩)] _ (fun e w' => e = .returned (.bool (!(f s1 == f s2))) ∧ ∃ q, w' = W'.drewN q)
  generalize (f s1 == f s2) = B at *
  generalize (f s1).length = n1 at *
  generalize (f s2).length = n2 at *
  go_enter Tryz.func98, Tryz.ntmps98
  go_wp2_with (go_quiet ((first | (with_reducible exact quiet_n hcc.out) | (with_reducible exact quiet_n hcd.out) | (go_at_call 99; exact quiet_n heq.out))))
  go_ret
  exact ⟨rfl, _, rfl⟩
set_option maxHeartbeats 4000000 in
set_option maxRecDepth 100000 in
theorem HoldsIs.txtIs {g q r bk cp : Nat} {f : Sv → List UInt8} {k : FuncId} {ys : List UInt8} {W : World} (hq : W.cell? ⟨q, 0, none⟩ = some (fnV k)) (hl : q < W.heap.size) (hn : g < q) (G : GetU k f) (hE : Ent k)
    (hr : W.cell? ⟨r, 0, none⟩ = some (.slice (some ⟨bk, 0, none⟩) ys.length cp)) (hl' : r < W.heap.size) (hn' : g < r) (hb : ByteRow W bk 0 ys) (hlb : bk < W.heap.size) (hnb : g < bk) :
    HoldsIs g (fun _ b => f b == ys) (.func (.func 102) #[] #[.pointer (some ⟨q, 0, none⟩), .pointer (some ⟨r, 0, none⟩)]) W := by
  refine ⟨_, _, rfl, ent_at (by kernel_rfl), fun W' ho b1 b2 s1 s2 h1 h2 hm => ?_⟩
  have k0 := (olyh_cell (j := 0) ho hl hn).trans hq
  have k1 := (olyh_cell (j := 0) ho hl' hn').trans hr
  have hB : BytesAt W' (some ⟨bk, 0, none⟩) ys := fun _ => ⟨bk, 0, rfl, Nat.lt_of_lt_of_le hlb ho.size, fun i hi => (olyh_cell ho hlb hnb).trans (hb i hi)⟩
  unfold Ent at hE
  unfold fnV at k0
  obtain ⟨a2, c2, _, x2, l2, hcd⟩ := G W' b2 s2 h2
  have heq : ∀ n, Calls Tryz.prog 99 #[.slice a2 (f s2).length c2, .slice (some ⟨bk, 0, none⟩) ys.length cp] (W'.drewN n) fun e w' => e = .returned (.bool (f s2 == ys)) ∧ ∃ m, w' = (W'.drewN n).drewN m := fun n => (equal_at (x2.below (bl_drewN (Below.refl _ _) n)) (hB.below (bl_drewN (Below.refl _ _) n)) c2 cp).mono fun e w' he => ⟨he.1, 0, he.2⟩
  replace hcd := Lib.hid hcd
  replace heq := Lib.hid heq
  clear h1 h2 hm ho hq hr hb hB x2 l2
  change Calls Tryz.prog _ #[.pointer (some ⟨b1, 0, none⟩), .pointer (some ⟨b2, 0, none⟩), .pointer (some ⟨q, 0, none⟩), .pointer (some ⟨r, 0, none⟩)] _ (fun e w' => e = .returned (.bool (f s2 == ys)) ∧ ∃ q, w' = W'.drewN q)
  generalize (f s2 == ys) = B at *
  generalize (f s2).length = n2 at *
  generalize ys.length = n1 at *
  go_enter Tryz.func102, Tryz.ntmps102
  go_wp2_with (go_quiet ((first | (with_reducible exact quiet_n hcd.out) | (go_at_call 99; exact quiet_n heq.out))))
  go_ret
  exact ⟨rfl, _, rfl⟩
set_option maxHeartbeats 4000000 in
set_option maxRecDepth 100000 in
theorem HoldsIs.txtHas {g q r bk cp : Nat} {f : Sv → List UInt8} {k : FuncId} {ys : List UInt8} {W : World} (hq : W.cell? ⟨q, 0, none⟩ = some (fnV k)) (hl : q < W.heap.size) (hn : g < q) (G : GetU k f) (hE : Ent k)
    (hr : W.cell? ⟨r, 0, none⟩ = some (.slice (some ⟨bk, 0, none⟩) ys.length cp)) (hl' : r < W.heap.size) (hn' : g < r) (hb : ByteRow W bk 0 ys) (hlb : bk < W.heap.size) (hnb : g < bk) (hys : ys.length ≤ 100000) :
    HoldsIs g (fun _ b => CM.hasS (f b) ys) (.func (.func 100) #[] #[.pointer (some ⟨q, 0, none⟩), .pointer (some ⟨r, 0, none⟩)]) W := by
  refine ⟨_, _, rfl, ent_at (by kernel_rfl), fun W' ho b1 b2 s1 s2 h1 h2 hm => ?_⟩
  have k0 := (olyh_cell (j := 0) ho hl hn).trans hq
  have k1 := (olyh_cell (j := 0) ho hl' hn').trans hr
  have hB : BytesAt W' (some ⟨bk, 0, none⟩) ys := fun _ => ⟨bk, 0, rfl, Nat.lt_of_lt_of_le hlb ho.size, fun i hi => (olyh_cell ho hlb hnb).trans (hb i hi)⟩
  unfold Ent at hE
  unfold fnV at k0
  obtain ⟨a2, c2, hc2, x2, l2, hcd⟩ := G W' b2 s2 h2
  have heq : ∀ n, Calls Tryz.prog 101 #[.slice a2 (f s2).length c2, .slice (some ⟨bk, 0, none⟩) ys.length cp] (W'.drewN n) fun e w' => e = .returned (.bool (CM.hasS (f s2) ys)) ∧ ∃ m, w' = (W'.drewN n).drewN m := fun n => contains_at (x2.below (bl_drewN (Below.refl _ _) n)) (hB.below (bl_drewN (Below.refl _ _) n)) c2 cp hc2 l2 hys (hm.below (bl_drewN (Below.refl _ _) n))
  replace hcd := Lib.hid hcd
  replace heq := Lib.hid heq
  clear h1 h2 hm ho hq hr hb hB x2 l2
  change Calls Tryz.prog _ #[.pointer (some ⟨b1, 0, none⟩), .pointer (some ⟨b2, 0, none⟩), .pointer (some ⟨q, 0, none⟩), .pointer (some ⟨r, 0, none⟩)] _ (fun e w' => e = .returned (.bool (CM.hasS (f s2) ys)) ∧ ∃ q, w' = W'.drewN q)
  generalize CM.hasS (f s2) ys = B at *
  generalize (f s2).length = n2 at *
  generalize ys.length = n1 at *
  go_enter Tryz.func100, Tryz.ntmps100
  go_wp2_with (go_quiet ((first | (with_reducible exact quiet_n hcd.out) | (go_at_call 101; exact quiet_n heq.out))))
  go_ret
  exact ⟨rfl, _, rfl⟩
end Go.Proofs.YtcjcflmnghhbaaaGreat
