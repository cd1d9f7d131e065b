/-
  The contract of the map of rules, and what is looked up in it, of chapter 29.
  Conditions: as each theorem states them.
-/
import Derived.Test.YtjfpepinmbbnbaaDoorOrd1
import Derived.WideMake
import Derived.Maps.OwnOps
namespace Go.Proofs.YtjfpepinmbbnbaaDoor
open Go.RowKit
set_option linter.unusedVariables false
set_option linter.unusedSimpArgs false
theorem set_alloc (w : World) (o o' : Obj) : ({ w.alloc o with heap := (w.alloc o).heap.setIfInBounds w.heap.size o' } : World) = w.alloc o' := by
  have : (w.heap.push o).setIfInBounds w.heap.size o' = w.heap.push o' := by
    apply Array.ext_getElem?
    intro i
    rw [Array.getElem?_setIfInBounds]
    by_cases h : w.heap.size = i
    · subst h; simp
    · rw [if_neg h, Array.getElem?_push, Array.getElem?_push, if_neg (fun e => h e.symm), if_neg (fun e => h e.symm)]
  show ({ w with heap := _ } : World) = { w with heap := _ }
  rw [show (w.alloc o).heap = w.heap.push o from rfl, this]
theorem run_ins {P : Program} (w : World) (mty kt et : TypeId) (es : Array MapEntry) (clock : Nat) (s : ByteArray) (val : Value) (hm : P.underlying mty = some (.map kt et)) (hk : P.underlying kt = some .string) (hf : Instr.findNow .string (.string s) es.toList 0 = some none) :
    (Instr.mapUpdate mty (.map (some w.heap.size)) (.string s) val).run P (w.alloc (.map es clock)) = .ok () (w.alloc (.map (es.push { key := .string s, val := val, born := clock }) (clock + 1))) := by
  have hb : (w.alloc (.map es clock)).heap[w.heap.size]? = some (.map es clock) := heap_alloc_new w _
  have hc : (Instr.checkKey false 10000 kt (.string s)).run P (w.alloc (.map es clock)) = .ok () (w.alloc (.map es clock)) := MapKept.run_checkKey (k := .string s) hk (by simp [MapKept.IsKey]) false 9999
  simp [Instr.mapUpdate, run_underlying hm, MapKept.run_getObj_map hb, hc, MapKept.run_findKey hk hf, MapKept.run_setObj_map _ hb, Result.andThen]
  exact set_alloc w _ _
abbrev Rule := Int × Bool × Bool × Bool
def entV (r : Rule) : Value := .agg #[.int .i64 r.1, .bool r.2.1, .bool r.2.2.1, .bool r.2.2.2]
def mkEs (i : Nat) : List (List UInt8 × Rule) → List MapEntry
  | [] => []
  | (k, r) :: l => { key := strV k, val := entV r, born := i } :: mkEs (i + 1) l
def esN (n : Nat) : Array MapEntry := (mkEs 0 (OM.rulesT.take n)).toArray
theorem es_step : ∀ n, n < 12 → Instr.findNow .string (strV (OM.rulesT.getD n ([], 0, false, false, false)).1) (esN n).toList 0 = some none ∧
    (esN n).push { key := strV (OM.rulesT.getD n ([], 0, false, false, false)).1, val := entV (OM.rulesT.getD n ([], 0, false, false, false)).2, born := n } = esN (n + 1) := by
  intro n hn
  match n, hn with
  | 0, _ => exact ⟨rfl, rfl⟩
  | 1, _ => exact ⟨by kernel_rfl, rfl⟩
  | 2, _ => exact ⟨by kernel_rfl, rfl⟩
  | 3, _ => exact ⟨by kernel_rfl, rfl⟩
  | 4, _ => exact ⟨by kernel_rfl, rfl⟩
  | 5, _ => exact ⟨by kernel_rfl, rfl⟩
  | 6, _ => exact ⟨by kernel_rfl, rfl⟩
  | 7, _ => exact ⟨by kernel_rfl, rfl⟩
  | 8, _ => exact ⟨by kernel_rfl, rfl⟩
  | 9, _ => exact ⟨by kernel_rfl, rfl⟩
  | 10, _ => exact ⟨by kernel_rfl, rfl⟩
  | 11, _ => exact ⟨by kernel_rfl, rfl⟩
/-- one rule more -/
theorem wpList_rule {P : Program} (w : World) {ops : Array Oper} {rest : List Oper} {o : Oper} {a : Act} {Q : Exit → Act → World → Prop}
    (hg : o.guard = none) (m x v : Operand) (t : TypeId) (hop : o.op = Op.insert t m x v) (k e : TypeId) (ht : P.underlying t = some (.map k e)) (hk : P.underlying k = some .string) (n : Nat) (hn : n < 12) (hm : a.eval m = .map (some w.heap.size))
    (hx : a.eval x = strV (OM.rulesT.getD n ([], 0, false, false, false)).1) (hv : a.eval v = entV (OM.rulesT.getD n ([], 0, false, false, false)).2)
    (hK : wpList P ops Q rest (a.put o.dst undef) (w.alloc (.map (esN (n + 1)) (n + 1)))) : wpList P ops Q (o :: rest) a (w.alloc (.map (esN n) n)) := by
  refine wpList_plain hg fun K' hK' => ?_
  obtain ⟨h1, h2⟩ := es_step n hn
  have hrun := run_ins (P := P) w t k e (esN n) n ⟨(OM.rulesT.getD n ([], 0, false, false, false)).1.toArray⟩ (entV (OM.rulesT.getD n ([], 0, false, false, false)).2) ht hk h1
  rw [h2] at hrun
  rw [show (Value.string ⟨(OM.rulesT.getD n ([], 0, false, false, false)).1.toArray⟩) = strV (OM.rulesT.getD n ([], 0, false, false, false)).1 from rfl] at hrun
  generalize strV (OM.rulesT.getD n ([], 0, false, false, false)).1 = kv at *
  generalize entV (OM.rulesT.getD n ([], 0, false, false, false)).2 = rv at *
  unfold Oper.wp
  simp [execOp, hop, hm, hx, hv, hrun, Result.andThen]
  exact hK' _ _ hK
set_option maxHeartbeats 2000000 in
set_option maxRecDepth 100000 in
theorem rules_any (w : World) : Calls Tryd.prog 55 #[] w fun e w' => e = .returned (.map (some w.heap.size)) ∧ w' = w.alloc (.map (esN 12) 12) := by
  have hmm := @run_makeMap Tryd.prog
  go_enter Tryd.func55, Tryd.ntmps55
  go_wp2_with (first | ((with_reducible show wpList _ _ _ (⟨none, .insert _ _ _ (.tmp 2), _, _, _, _⟩ :: _) _ _); refine wpList_rule w rfl (.tmp 1) (.const (strV (OM.rulesT.getD 0 ([], 0, false, false, false)).1)) (.tmp 2) 87 rfl _ _ Tryd.underlying87 Tryd.underlying9 0 (by omega) rfl rfl rfl ?_) | ((with_reducible show wpList _ _ _ (⟨none, .insert _ _ _ (.tmp 3), _, _, _, _⟩ :: _) _ _); refine wpList_rule w rfl (.tmp 1) (.const (strV (OM.rulesT.getD 1 ([], 0, false, false, false)).1)) (.tmp 3) 87 rfl _ _ Tryd.underlying87 Tryd.underlying9 1 (by omega) rfl rfl rfl ?_) | ((with_reducible show wpList _ _ _ (⟨none, .insert _ _ _ (.tmp 4), _, _, _, _⟩ :: _) _ _); refine wpList_rule w rfl (.tmp 1) (.const (strV (OM.rulesT.getD 2 ([], 0, false, false, false)).1)) (.tmp 4) 87 rfl _ _ Tryd.underlying87 Tryd.underlying9 2 (by omega) rfl rfl rfl ?_) | ((with_reducible show wpList _ _ _ (⟨none, .insert _ _ _ (.tmp 5), _, _, _, _⟩ :: _) _ _); refine wpList_rule w rfl (.tmp 1) (.const (strV (OM.rulesT.getD 3 ([], 0, false, false, false)).1)) (.tmp 5) 87 rfl _ _ Tryd.underlying87 Tryd.underlying9 3 (by omega) rfl rfl rfl ?_) | ((with_reducible show wpList _ _ _ (⟨none, .insert _ _ _ (.tmp 6), _, _, _, _⟩ :: _) _ _); refine wpList_rule w rfl (.tmp 1) (.const (strV (OM.rulesT.getD 4 ([], 0, false, false, false)).1)) (.tmp 6) 87 rfl _ _ Tryd.underlying87 Tryd.underlying9 4 (by omega) rfl rfl rfl ?_) | ((with_reducible show wpList _ _ _ (⟨none, .insert _ _ _ (.tmp 7), _, _, _, _⟩ :: _) _ _); refine wpList_rule w rfl (.tmp 1) (.const (strV (OM.rulesT.getD 5 ([], 0, false, false, false)).1)) (.tmp 7) 87 rfl _ _ Tryd.underlying87 Tryd.underlying9 5 (by omega) rfl rfl rfl ?_) | ((with_reducible show wpList _ _ _ (⟨none, .insert _ _ _ (.tmp 8), _, _, _, _⟩ :: _) _ _); refine wpList_rule w rfl (.tmp 1) (.const (strV (OM.rulesT.getD 6 ([], 0, false, false, false)).1)) (.tmp 8) 87 rfl _ _ Tryd.underlying87 Tryd.underlying9 6 (by omega) rfl rfl rfl ?_) | ((with_reducible show wpList _ _ _ (⟨none, .insert _ _ _ (.tmp 9), _, _, _, _⟩ :: _) _ _); refine wpList_rule w rfl (.tmp 1) (.const (strV (OM.rulesT.getD 7 ([], 0, false, false, false)).1)) (.tmp 9) 87 rfl _ _ Tryd.underlying87 Tryd.underlying9 7 (by omega) rfl rfl rfl ?_) | ((with_reducible show wpList _ _ _ (⟨none, .insert _ _ _ (.tmp 10), _, _, _, _⟩ :: _) _ _); refine wpList_rule w rfl (.tmp 1) (.const (strV (OM.rulesT.getD 8 ([], 0, false, false, false)).1)) (.tmp 10) 87 rfl _ _ Tryd.underlying87 Tryd.underlying9 8 (by omega) rfl rfl rfl ?_) | ((with_reducible show wpList _ _ _ (⟨none, .insert _ _ _ (.tmp 11), _, _, _, _⟩ :: _) _ _); refine wpList_rule w rfl (.tmp 1) (.const (strV (OM.rulesT.getD 9 ([], 0, false, false, false)).1)) (.tmp 11) 87 rfl _ _ Tryd.underlying87 Tryd.underlying9 9 (by omega) rfl rfl rfl ?_) | ((with_reducible show wpList _ _ _ (⟨none, .insert _ _ _ (.tmp 12), _, _, _, _⟩ :: _) _ _); refine wpList_rule w rfl (.tmp 1) (.const (strV (OM.rulesT.getD 10 ([], 0, false, false, false)).1)) (.tmp 12) 87 rfl _ _ Tryd.underlying87 Tryd.underlying9 10 (by omega) rfl rfl rfl ?_) | ((with_reducible show wpList _ _ _ (⟨none, .insert _ _ _ (.tmp 13), _, _, _, _⟩ :: _) _ _); refine wpList_rule w rfl (.tmp 1) (.const (strV (OM.rulesT.getD 11 ([], 0, false, false, false)).1)) (.tmp 13) 87 rfl _ _ Tryd.underlying87 Tryd.underlying9 11 (by omega) rfl rfl rfl ?_))
  go_ret
  exact ⟨rfl, rfl⟩
theorem str_beq (x k : List UInt8) : ((⟨x.toArray⟩ : ByteArray) == ⟨k.toArray⟩) = (x == k) := by
  have h1 : ((⟨x.toArray⟩ : ByteArray) == ⟨k.toArray⟩) = (x.toArray == k.toArray) := rfl
  rw [h1, Bool.eq_iff_iff, beq_iff_eq, beq_iff_eq]
  simp
theorem find_rule (x : List UInt8) : ∀ (l : List (List UInt8 × Rule)) (i j : Nat), ∃ q, Instr.findNow .string (strV x) (mkEs i l) j = some q ∧ q.map (·.2) = (l.lookup x).map entV := by
  intro l
  induction l with
  | nil => intro i j; exact ⟨none, rfl, rfl⟩
  | cons a l ih =>
    intro i j
    obtain ⟨k, r⟩ := a
    simp only [mkEs, Instr.findNow, Instr.sameNow, str_beq, List.lookup]
    cases h : (x == k) with
    | true => exact ⟨_, rfl, rfl⟩
    | false => exact ih _ _
theorem esN_all : (esN 12).toList = mkEs 0 OM.rulesT := rfl
theorem look_rule (W : World) (b : Nat) (x : List UInt8) (hb : W.heap[b]? = some (.map (esN 12) 12)) :
    (Instr.lookup 87 (.map (some b)) (strV x) true).run Tryd.prog W = .ok (match OM.ruleOf x with | some r => .tuple #[entV r, .bool true] | none => .tuple #[entV (0, false, false, false), .bool false]) W := by
  obtain ⟨q, h1, h2⟩ := find_rule x OM.rulesT 0 0
  rw [← esN_all] at h1
  have hc : (Instr.checkKey (esN 12).isEmpty 10000 9 (strV x)).run Tryd.prog W = .ok () W := MapKept.run_checkKey (k := strV x) Tryd.underlying9 (by simp [MapKept.IsKey]) _ 9999
  have hz : (zeroValue 90).run Tryd.prog W = .ok (entV (0, false, false, false)) W := by kernel_rfl
  have hf := MapKept.run_findKey (P := Tryd.prog) (w := W) Tryd.underlying9 h1
  unfold OM.ruleOf
  cases q with
  | none =>
    have e : OM.rulesT.lookup x = none := by cases hh : OM.rulesT.lookup x with | none => rfl | some r => rw [hh] at h2; cases h2
    rw [e]
    simp [Instr.lookup, run_underlying Tryd.underlying87, MapKept.run_getObj_map hb, hc, hf, hz, Result.andThen]
  | some jv =>
    obtain ⟨j, v⟩ := jv
    obtain ⟨r, e, rfl⟩ : ∃ r, OM.rulesT.lookup x = some r ∧ entV r = v := by
      cases hh : OM.rulesT.lookup x with
      | none => rw [hh] at h2; cases h2
      | some r => rw [hh] at h2; simp at h2; exact ⟨r, rfl, h2.symm⟩
    rw [e]
    simp [Instr.lookup, run_underlying Tryd.underlying87, MapKept.run_getObj_map hb, hc, hf, Result.andThen]
theorem rule_ok {x : List UInt8} {r : Rule} (h : OM.ruleOf x = some r) : r.2 = (false, false, false) ∨ r.2 = (true, false, false) ∨ r.2 = (true, true, true) := by
  have : ∀ p ∈ OM.rulesT, p.2.2 = (false, false, false) ∨ p.2.2 = (true, false, false) ∨ p.2.2 = (true, true, true) := by decide
  unfold OM.ruleOf at h
  have hm : ∃ k, (k, r) ∈ OM.rulesT := by
    clear this
    generalize OM.rulesT = l at h
    induction l with
    | nil => cases h
    | cons a l ih =>
      obtain ⟨k, q⟩ := a
      simp only [List.lookup] at h
      cases hx : (x == k) with
      | true => rw [hx] at h; cases h; exact ⟨k, by simp⟩
      | false => rw [hx] at h; obtain ⟨k', h'⟩ := ih h; exact ⟨k', by simp [h']⟩
  obtain ⟨k, hk⟩ := hm
  exact this _ hk
end Go.Proofs.YtjfpepinmbbnbaaDoor
