/-
  What a reader of fields may find: how long it is; lists alone, no program in sight.
  Conditions: as each theorem states them.
-/
import Derived.Test.YtepdfkgadigafaaGreatDoorRdU
import Derived.Test.YtepdfkgadigafaaGreatDoorRdA
import Derived.Test.YtepdfkgadigafaaGreatDoorFdA
import Derived.Test.YtepdfkgadigafaaGreatDoorDlA
import Derived.Deep.LoopGhost
import Derived.Test.YtepdfkgadigafaaGreatDoorFldC
namespace Go.Proofs.YtepdfkgadigafaaGreatDoor
set_option linter.unusedVariables false
set_option linter.unusedSimpArgs false
theorem numV_64 (d : UInt8) (r : FM.Rd) : FM.I64 (FM.numV d r) := by
  rw [numV_eq]
  unfold atoiV FM.I64
  rcases h : Lib.atoiAll (FM.upto d r.1) with v | _ | _
  · exact Lib.atoiAll_bounds h
  · show _ ≤ (0 : Int) ∧ (0 : Int) ≤ _; omega
  · show _ ≤ Lib.atoiSat _ ∧ Lib.atoiSat _ ≤ _; unfold Lib.atoiSat; split <;> omega
theorem nv_64 (k : Nat) (r : FM.Rd) : FM.I64 (FM.nv k r) := numV_64 _ _
theorem scR_I (r : FM.Rd) : FM.ScI (FM.scR r) := by
  unfold FM.scR
  constructor <;> (dsimp only; exact nv_64 _ _)
/-- what a quote says is no longer than it -/
theorem unqS_len : ∀ (n : Nat) (s out : List UInt8) (a : Nat), s.length ≤ n → (unqS out a s).2.2 = 0 → ∃ b : Nat, (unqS out a s).2.1 = b ∧ (unqS out a s).1.length + a + 1 ≤ out.length + b ∧ b ≤ a + s.length
  | n, [], out, a, _, h => by rw [unqS_nil] at h; simp at h
  | 0, c :: r, out, a, hn, h => by simp at hn
  | n + 1, c :: r, out, a, hn, h => by
    simp only [List.length_cons] at hn
    by_cases h1 : c = 34
    · subst h1
      rw [unqS_end]
      exact ⟨a + 1, by simp, by simp only; omega, by simp⟩
    · by_cases h2 : c = 92
      · subst h2
        cases he : escS r with
        | error e =>
          exfalso
          obtain ⟨b, _, hb, _⟩ := unqS_range (n + 1) (92 :: r) out a (by simpa using hn) h
          rw [unqS_err _ _ _ _ he] at h
          simp only at h
          subst h
          unfold escS at he
          split at he
          · injection he with he; simp at he
          · split at he
            · cases he
            · split at he
              · cases he
              · rename_i e h2
                injection he with he
                subst he
                unfold octS at h2
                repeat' split at h2
                all_goals first | (injection h2 with h2; simp at h2; done) | (cases h2; done) | (simp only at h2; split at h2 <;> first | (injection h2 with h2; simp at h2; done) | cases h2)
        | ok x =>
          obtain ⟨x, k⟩ := x
          rw [unqS_esc _ _ _ _ _ he] at h ⊢
          have hk := escS_len he
          obtain ⟨b, e, h3, h4⟩ := unqS_len n (r.drop k) (out ++ [x]) (a + 1 + k) (by simp; omega) h
          refine ⟨b, e, ?_, ?_⟩
          · simp only [List.length_append, List.length_cons, List.length_nil] at h3; omega
          · simp only [List.length_drop, List.length_cons] at h4 ⊢; omega
      · rw [unqS_plain _ _ _ _ h1 h2] at h ⊢
        obtain ⟨b, e, h3, h4⟩ := unqS_len n r (out ++ [c]) (a + 1) (by omega) h
        exact ⟨b, e, by simp only [List.length_append, List.length_cons, List.length_nil] at h3; omega, by simp only [List.length_cons]; omega⟩
theorem unquote_len (s : List UInt8) (h : (unquoteS s 0).2.2 = 0) : ∃ b : Nat, (unquoteS s 0).2.1 = b ∧ (unquoteS s 0).1.length + 2 ≤ b ∧ b ≤ s.length := by
  unfold unquoteS at h ⊢
  split at h
  · simp at h
  · rename_i h0
    rw [if_neg h0]
    cases s with
    | nil => simp at h
    | cons c r =>
      simp only [Int.toNat_zero, List.drop_zero] at h ⊢
      split at h
      · simp at h
      · rename_i h1
        rw [if_neg h1]
        obtain ⟨b, e, h3, h4⟩ := unqS_len _ r [] (0 + 1) (Nat.le_refl _) h
        exact ⟨b, e, by simp only [List.length_nil] at h3; omega, by simp only [List.length_cons]; omega⟩
theorem quo_len (r : FM.Rd) : (FM.quoV r).length + (FM.quoE r).1.length ≤ r.1.length ∧ ((FM.quoE r).2 = true ∨ (FM.quoE r).1.length < r.1.length) := by
  unfold FM.quoV FM.quoE
  by_cases h : (unquoteS r.1 0).2.2 = 0
  · obtain ⟨b, e, h1, h2⟩ := unquote_len r.1 h
    rw [if_pos h, if_pos h, e]
    simp only [Int.toNat_natCast, List.length_drop]
    exact ⟨by omega, .inr (by omega)⟩
  · rw [if_neg h, if_neg h]
    exact ⟨by simp, .inl rfl⟩
theorem quo_bad (r : FM.Rd) (h : r.2 = true) : (FM.quoE r).2 = true := by unfold FM.quoE; split <;> simp [h]
theorem num_len (d : UInt8) (r : FM.Rd) : (FM.numE d r).1.length ≤ r.1.length := FM.behind_le d r.1
theorem mu_le (r : FM.Rd) : FM.mu r ≤ r.1.length := by unfold FM.mu; split <;> omega
theorem mu_wait (r : FM.Rd) (h0 : r.1 ≠ []) (h1 : r.2 = false) : FM.mu (FM.waitR r) < FM.mu r := by
  have hl : 0 < r.1.length := List.length_pos_iff.2 h0
  have e : FM.mu r = r.1.length := by unfold FM.mu; rw [h1]; rfl
  rw [e]
  have h2 := (quo_len (FM.numE 34 r)).2
  have h3 := num_len 34 r
  unfold FM.waitR FM.mu
  rcases h2 with h2 | h2
  · rw [h2]; simpa using hl
  · split <;> omega
theorem mu_file (r : FM.Rd) (h0 : r.1 ≠ []) (h1 : r.2 = false) : FM.mu (FM.fileR r) < FM.mu r := by
  have hl : 0 < r.1.length := List.length_pos_iff.2 h0
  have e : FM.mu r = r.1.length := by unfold FM.mu; rw [h1]; rfl
  rw [e]
  have h2 := (quo_len r).2
  have h3 := (quo_len (FM.quoE r)).1
  unfold FM.fileR FM.mu
  rcases h2 with h2 | h2
  · rw [quo_bad _ h2]; simpa using hl
  · split <;> omega
section
variable {α : Type} {R : FM.Rd → FM.Rd} {V : FM.Rd → α}
theorem rounds_cnt (hm : ∀ r : FM.Rd, r.1 ≠ [] → r.2 = false → FM.mu (R r) < FM.mu r) : ∀ (n : Nat) (r : FM.Rd) (acc : List α), (FM.rounds R V n r acc).2.length ≤ acc.length + FM.mu r
  | 0, r, acc => by simp [FM.rounds]
  | n + 1, r, acc => by
    by_cases h : r.1 = [] ∨ r.2 = true
    · rw [FM.rounds_stop _ _ _ h]; simp
    · simp only [not_or, Bool.not_eq_true] at h
      rw [FM.rounds_go h.1 h.2]
      have h1 := rounds_cnt hm n (R r) (acc ++ [V r])
      have h2 := hm r h.1 h.2
      simp only [List.length_append, List.length_cons, List.length_nil] at h1
      omega
theorem rounds_sum (sz : α → Nat) (hs : ∀ r : FM.Rd, sz (V r) + (R r).1.length ≤ r.1.length) : ∀ (n : Nat) (r : FM.Rd) (acc : List α), ((FM.rounds R V n r acc).2.map sz).sum ≤ (acc.map sz).sum + r.1.length
  | 0, r, acc => by simp [FM.rounds]
  | n + 1, r, acc => by
    by_cases h : r.1 = [] ∨ r.2 = true
    · rw [FM.rounds_stop _ _ _ h]; simp
    · simp only [not_or, Bool.not_eq_true] at h
      rw [FM.rounds_go h.1 h.2]
      have h1 := rounds_sum sz hs n (R r) (acc ++ [V r])
      have h2 := hs r
      simp only [List.map_append, List.sum_append, List.map_cons, List.map_nil, List.sum_cons, List.sum_nil] at h1
      omega
theorem rounds_all' (Pr : α → Prop) (hp : ∀ r : FM.Rd, Pr (V r)) : ∀ (n : Nat) (r : FM.Rd) (acc : List α), (∀ x ∈ acc, Pr x) → ∀ x ∈ (FM.rounds R V n r acc).2, Pr x
  | 0, r, acc, h => by simpa [FM.rounds] using h
  | n + 1, r, acc, h => by
    by_cases hh : r.1 = [] ∨ r.2 = true
    · rw [FM.rounds_stop _ _ _ hh]; exact h
    · simp only [not_or, Bool.not_eq_true] at hh
      rw [FM.rounds_go hh.1 hh.2]
      exact rounds_all' Pr hp n (R r) (acc ++ [V r]) (fun x hx => by
        rcases List.mem_append.1 hx with hx | hx
        · exact h x hx
        · simp only [List.mem_singleton] at hx; subst hx; exact hp r)
end
theorem sum_ge {α : Type} (f : α → Nat) {l : List α} {x : α} (h : x ∈ l) : f x ≤ (l.map f).sum := sum_mem (List.mem_map.2 ⟨x, h, rfl⟩)
theorem ws_fit (b : List UInt8) (hl : b.length ≤ 20000) : (FM.wsR b).2.length ≤ 1000000 ∧ (∀ x ∈ (FM.wsR b).2, x.2.length ≤ 1000000 ∧ FM.I64 x.1) ∧ (FM.waitsT (FM.wsR b).2).length ≤ 1000000 := by
  have h1 := rounds_cnt (V := FM.waitV) mu_wait (b.length + 1) (b, false) []
  have h2 := rounds_sum (R := FM.waitR) (V := FM.waitV) (fun x => x.2.length) (fun r => by
    have h := (quo_len (FM.numE 34 r)).1
    have h' := num_len 34 r
    unfold FM.waitV FM.waitR
    simp only; omega) (b.length + 1) (b, false) []
  have h3 := rounds_all' (R := FM.waitR) (V := FM.waitV) (fun x => FM.I64 x.1) (fun r => numV_64 34 r) (b.length + 1) (b, false) [] (by simp)
  have h4 := mu_le (b, false)
  simp only [List.length_nil, List.map_nil, List.sum_nil, Nat.zero_add] at h1 h2 h4
  have e : FM.wsR b = FM.rounds FM.waitR FM.waitV (b.length + 1) (b, false) [] := rfl
  rw [← e] at h1 h2 h3
  have h5 : (FM.waitsT (FM.wsR b).2).length ≤ 23 * (FM.wsR b).2.length + 4 * ((FM.wsR b).2.map fun x => x.2.length).sum := waits_le (FM.wsR b).2 h3
  refine ⟨by omega, fun x hx => ⟨?_, h3 x hx⟩, by omega⟩
  have := sum_ge (fun x : Int × FM.Bytes => x.2.length) hx
  omega
theorem fs_fit (b : List UInt8) (hl : b.length ≤ 20000) : (FM.fsR b).2.length ≤ 1000000 ∧ (∀ x ∈ (FM.fsR b).2, x.2.length ≤ 1000000 ∧ x.1.length ≤ 1000000) ∧ (FM.filesT (FM.fsR b).2).length ≤ 1000000 := by
  have h1 := rounds_cnt (V := FM.fileV) mu_file (b.length + 1) (b, false) []
  have h2 := rounds_sum (R := FM.fileR) (V := FM.fileV) (fun x => x.2.length + x.1.length) (fun r => by
    have h := (quo_len r).1
    have h' := (quo_len (FM.quoE r)).1
    unfold FM.fileV FM.fileR
    simp only; omega) (b.length + 1) (b, false) []
  have h4 := mu_le (b, false)
  simp only [List.length_nil, List.map_nil, List.sum_nil, Nat.zero_add] at h1 h2 h4
  have e : FM.fsR b = FM.rounds FM.fileR FM.fileV (b.length + 1) (b, false) [] := rfl
  rw [← e] at h1 h2
  have h5 : (FM.filesT (FM.fsR b).2).length ≤ 4 * (FM.fsR b).2.length + 4 * ((FM.fsR b).2.map fun x => x.2.length + x.1.length).sum := files_le (FM.fsR b).2
  refine ⟨by omega, fun x hx => ?_, by omega⟩
  have := sum_ge (fun x : FM.Bytes × FM.Bytes => x.2.length + x.1.length) hx
  omega
theorem raw_fit {a b c d e n x y w f : List UInt8} (h : ∀ z ∈ [a, b, c, d, e, n, x, y, w, f], z.length ≤ 20000) : FitV (FM.rawV a b c d e n x y w f) := by
  have g := fun z hz => h z hz
  obtain ⟨w1, w2, w3⟩ := ws_fit w (h w (by simp))
  obtain ⟨f1, f2, f3⟩ := fs_fit f (h f (by simp))
  have k1 := h a (by simp); have k2 := h b (by simp); have k3 := h c (by simp); have k4 := h d (by simp); have k5 := h e (by simp); have k6 := h x (by simp); have k7 := h y (by simp)
  have t : ∀ z : List UInt8, (FM.truths z).length = z.length := fun z => by simp [FM.truths]
  unfold FM.rawV
  refine ⟨?_, ?_, ?_, ?_, ?_, ?_, ?_, w1, f1, fun z hz => (w2 z hz).1, f2, w3, f3⟩
  all_goals (first | (dsimp only; omega) | (dsimp only; rw [t]; omega) | omega | (rw [t]; omega))
end Go.Proofs.YtepdfkgadigafaaGreatDoor
/-
  slices.EqualFunc of lists of texts, by bytes.Equal.
  Conditions: as each theorem states them.
-/
namespace Go.Proofs.YtepdfkgadigafaaGreatDoor
open Go.RowKit
set_option linter.unusedVariables false
set_option linter.unusedSimpArgs false
set_option maxHeartbeats 4000000 in
set_option maxRecDepth 100000 in
theorem eqtexts_any (a b : Option Addr) (c d : Nat) (xs ys : List (List UInt8)) (w : World) (l1 : xs.length ≤ 1000000) (l2 : ys.length ≤ 1000000) (h1 : TxAt (fun _ => True) false w a xs) (h2 : TxAt (fun _ => True) false w b ys) :
    Calls Tryz.prog 36 #[.slice a xs.length c, .slice b ys.length d, .func (.func 37) #[] #[]] w fun e w' => e = .returned (.bool (txB xs ys)) ∧ w = w' := by
  by_cases hl : xs.length = ys.length
  · obtain ⟨n, hn⟩ : ∃ n, xs.length = n := ⟨_, rfl⟩
    have hm : ys.length = n := by omega
    clear hl
    rw [hn, hm]
    rw [hn] at l1
    replace hn := Lib.hid hn
    replace hm := Lib.hid hm
    clear l2
    have hq : ((n : Int) != n) = false := by simp
    replace h1 := Lib.hid h1
    replace h2 := Lib.hid h2
    go_enter Tryz.func36, Tryz.ntmps36
    go_wp2_with fail
    go_loopg [17] n (fun gh i wr => ∃ k : Nat, gh = n - k ∧ i = .int .i64 (k : Int) ∧ k ≤ n ∧ Hid (AlikeT k xs ys) ∧ w = wr)
    case atStart => exact ⟨0, rfl, rfl, by omega, Lib.hid (fun i h => by omega), rfl⟩
    case round =>
      obtain ⟨k, rfl, rfl, hk, ht, rfl⟩ := hrel
      by_cases hltn : k < n
      · have hlt : k < xs.length := by rw [hn.out]; exact hltn
        have k2 : k < ys.length := by rw [hm.out]; exact hltn
        obtain ⟨p, o, xa, xc, rfl, e1, _, _, hB1⟩ := h1.out.nth hlt
        obtain ⟨p', o', ya, yc, rfl, e2, _, _, hB2⟩ := h2.out.nth k2
        have hcc := Lib.hid (equal_any xa ya xs[k] ys[k] xc yc w hB1 hB2)
        clear hB1 hB2
        have i1 : (k : Int) < (n : Int) := by omega
        by_cases he : xs[k] = ys[k]
        · have hs := Lib.hid (ht.out.succ hlt k2 he)
          rw [eqB_true.2 he] at hcc
          clear he ht
          go_wp2_with (go_at_call 37; (with_reducible refine hcc.out.mono ?_); rintro e w2 ⟨rfl, rfl⟩)
          all_goals go_roundg (n - (k + 1))
          case measure => omega
          case rel => exact ⟨k + 1, rfl, by go_num, by omega, hs, rfl⟩
        · have hne := Lib.hid (txB_at hlt k2 he)
          rw [eqB_false.2 he] at hcc
          clear he ht
          go_wp2_with (go_at_call 37; (with_reducible refine hcc.out.mono ?_); rintro e w2 ⟨rfl, rfl⟩)
          all_goals go_ret
          all_goals exact ⟨(ret_bool hne.out).symm, rfl⟩
      · obtain rfl : k = n := by omega
        have hfin := Lib.hid (AlikeT.eq (by rw [hn.out]; exact ht.out) (by rw [hn.out, hm.out]))
        go_wp2_with fail
        all_goals go_ret
        all_goals exact ⟨(ret_bool hfin.out).symm, rfl⟩
  · have hq : ((xs.length : Int) != ys.length) = true := by simp; omega
    have hne := Lib.hid (txB_len hl)
    go_enter Tryz.func36, Tryz.ntmps36
    go_wp2_with fail
    all_goals go_ret
    all_goals exact ⟨(ret_bool hne.out).symm, rfl⟩
end Go.Proofs.YtepdfkgadigafaaGreatDoor
/-
  What lies in memory while a state is read from its fields; of chapter 20.
  Conditions: as each theorem states them.
-/
namespace Go.Proofs.YtepdfkgadigafaaGreatDoor
open Go.RowKit Go.Sort
set_option linter.unusedVariables false
set_option linter.unusedSimpArgs false
theorem below_lt {w X : World} {k : Nat} (h : Below w.heap.size w X) (hk : k < w.heap.size) : k < X.heap.size := Nat.lt_of_lt_of_le hk h.size
/-- the state that is made (block S), the result's place, what was there -/
structure FrAt (w : World) (S : Nat) (cur : List Value) (X : World) : Prop where
  st : Blk X S 34 cur
  res : Blk X w.heap.size 34 zeroC.cells
  old : Below w.heap.size w X
  lt : w.heap.size < S
theorem FrAt.below {w X Y : World} {S : Nat} {cur : List Value} (h : FrAt w S cur X) (hb : Below X.heap.size X Y) : FrAt w S cur Y := ⟨h.st.below hb, h.res.below hb, bl_trans h.old hb, h.lt⟩
theorem FrAt.set {w X : World} {S : Nat} {cur : List Value} (h : FrAt w S cur X) (j : Nat) (v : Value) : FrAt w S (cur.set j v) (X.setCell ⟨S, j, none⟩ v) :=
  ⟨h.st.set j v, h.res.set_other (p := ⟨S, j, none⟩) (by have := h.lt; show S ≠ _; omega) v, bl_setCell h.old (by have := h.lt; show _ ≤ S; omega) v, h.lt⟩
theorem FrAt.only {w X Y : World} {S : Nat} {cur : List Value} {T : Nat → Prop} (h : FrAt w S cur X) (ho : Only T X Y) (hS : ¬ T S) (hr : ¬ T w.heap.size) (hT : ∀ k, T k → w.heap.size ≤ k) : FrAt w S cur Y :=
  ⟨h.st.only ho hS, h.res.only ho hr, h.old.trans (ho.below h.old.size hT), h.lt⟩
/-- a reader behind a pointer -/
structure NextAt (q p : Nat) (r : FM.Rd) (w : World) : Prop where
  q : Blk w q 73 [.pointer (some ⟨p, 0, none⟩)]
  p : Blk w p 75 [strV r.1, .bool r.2]
  err : ErrAt w
theorem NextAt.below {q p : Nat} {r : FM.Rd} {w w' : World} (h : NextAt q p r w) (hb : Below w.heap.size w w') : NextAt q p r w' := ⟨h.q.below hb, h.p.below hb, h.err.below hb⟩
theorem NextAt.only {q p : Nat} {r : FM.Rd} {w w' : World} {T : Nat → Prop} (h : NextAt q p r w) (ho : Only T w w') (h1 : ¬ T q) (h2 : ¬ T p) (h3 : ¬ T 3) (h4 : ¬ T 4) : NextAt q p r w' := ⟨h.q.only ho h1, h.p.only ho h2, h.err.only ho h3 h4⟩
theorem next_at {q p : Nat} {r : FM.Rd} {w : World} (h : NextAt q p r w) (hpq : p ≠ q) (h3 : p ≠ 3) (h4 : p ≠ 4) (hl : r.1.length ≤ 100000) :
    Calls Tryz.prog 33 #[.pointer (some ⟨q, 0, none⟩)] w fun e w' => e = .returned (.int .i64 (FM.numV 32 r)) ∧ NextAt q p (FM.nextE r) w' ∧ Only (fun k => k = p) w w' := by
  refine (next_any q p r.1 r.2 w h.q h.p hpq hl h.err).mono ?_
  rintro e w' ⟨rfl, hb, ho⟩
  exact ⟨rfl, ⟨h.q.only ho (fun e => hpq e.symm), hb, h.err.only ho (fun e => h3 e.symm) (fun e => h4 e.symm)⟩, ho⟩
theorem it_le (k : Nat) (r : FM.Rd) : (FM.it k r).1.length ≤ r.1.length := by
  induction k with
  | zero => exact Nat.le_refl _
  | succ k ih =>
    show (FM.nextE (FM.it k r)).1.length ≤ _
    unfold FM.nextE
    have := num_len 32 (FM.it k r)
    simp only [List.length_drop]; omega
/-- all of a list of texts in memory -/
theorem tx_all {w : World} {a : Option Addr} {xs : List (List UInt8)} (h : TxAt (fun _ => True) false w a xs) (h0 : 0 < xs.length) : ∃ b o, a = some ⟨b, o, none⟩ ∧ b < w.heap.size ∧ ∀ i (hi : i < xs.length), ∃ xa xc, w.cell? ⟨b, o + i, none⟩ = some (.slice xa xs[i].length xc) ∧ xs[i].length ≤ xc ∧ ByAt (fun _ => True) false w xa xs[i] := by
  obtain ⟨b, o, e, _, hb, hc⟩ := h h0
  refine ⟨b, o, e, hb, fun i hi => ?_⟩
  obtain ⟨xa, xc, e1, e2, _, e3⟩ := hc i hi
  exact ⟨xa, xc, e1, e2, e3⟩
/-- what From answers -/
def FromIs (r : Option StV) (w : World) (e : Ending) (w' : World) : Prop := ∃ s' : StC, e = .returned (.tuple #[.agg s'.cells.toArray, .bool r.isSome]) ∧ SIn w.heap.size w'.heap.size s' (r.getD zeroV) w' ∧ Below w.heap.size w w'
theorem by_tx {W : World} {a : Option Addr} {c : Nat} {t : List UInt8} (h : ByAt (fun _ => True) false W a t) (hc : t.length ≤ c) (hl : t.length ≤ 1000000) : TxI 0 W.heap.size W ⟨a, t.length, c⟩ t :=
  ⟨rfl, hc, by omega, fun h0 => by
    obtain ⟨b, o, e, _, hb, _, hr⟩ := h (by rw [bc_len] at h0; exact h0)
    refine ⟨b, o, e, Nat.zero_le _, hb, fun i hi => ⟨?_, fun h => absurd h (by omega)⟩⟩
    rw [bc_len] at hi
    rw [hr i hi]
    simp [Lib.byteCells]⟩
end Go.Proofs.YtepdfkgadigafaaGreatDoor
/-
  Rows of pairs while they are read from a field; of chapter 20.
  Conditions: as each theorem states them.
-/
namespace Go.Proofs.YtepdfkgadigafaaGreatDoor
open Go.RowKit Go.Sort
set_option linter.unusedVariables false
set_option linter.unusedSimpArgs false
section
variable {P : Program} {ops : Array Oper} {w : World}
/-- an append at an operation -/
theorem wp_append_at8 {o : Oper} {a : Act} {K : Act → World → Prop} {Q : Exit → Act → World → Prop} (s x : Operand) (t : TypeId)
    (ho : o.op = .call { callee := .builtin .append, args := #[s, x], argTypes := #[t, t] })
    (base : Nat) (e : TypeId) (i : TypeInfo) (z : Value) (size bytes : Nat) (ht : P.underlying t = some (.slice e)) (hi : P.info? e = some i) (hz : i.zero = some z)
    (hsize : i.size = size) (hby : i.bytes = bytes) (hzs : z.cells.size = size) (hsz : 0 < size)
    (v : Value) (n : Nat) (xs : List Value) (hs : a.eval s = v) (hown : w.ownsRow base e size v n xs)
    (ad : Addr) (m c : Nat) (news : List Value) (hx : a.eval x = .slice (some ad) m c) (hsv : ∀ j u, news[j]? = some u → w.cell? (ad.add j) = some u) (hl : news.length = m * size) (h1 : ∀ u ∈ news, u.oneCell' = true)
    (h63 : n + m ≤ maxLen) (hbytes : (n + m) * bytes ≤ 140737488355328) (hbase : base ≤ w.heap.size)
    (h : ∀ v' w', w'.ownsRow base e size v' (n + m) (xs ++ news) → w.grownBy w' v.ownBlock → K (a.put o.dst v') w') : o.wp P a w K Q := by
  obtain ⟨v', w', hr, h2, h3, _, h4⟩ := run_append_own_at (P := P) w base t o.type e i z size bytes ht hi hz hsize hby hzs hsz v n xs hown ad m c news hl hsv h1 h63 hbytes hbase
  unfold Oper.wp execOp
  simp only [ho, resolve, invoke, builtin, Sem.run_bind, Sem.run_pure, Result.andThen_ok, List.map_toArray, List.map_cons, List.map_nil, hs, hx, hr]
  exact h v' w' h2 h3
end
theorem own_only {X Y : World} {N e k n : Nat} {v : Value} {xs : List Value} {T : Nat → Prop} (h : X.ownsRow N e k v n xs) (ho : Only T X Y) (hT : ∀ j, T j → j < N) : Y.ownsRow N e k v n xs := by
  obtain ⟨hl, h⟩ := h
  rcases h with ⟨rfl, rfl⟩ | ⟨g, cap, cur, rfl, hg, hb', hk, hc, hs, rfl⟩
  · exact ⟨hl, .inl ⟨rfl, rfl⟩⟩
  · exact ⟨hl, .inr ⟨g, cap, cur, rfl, hg, (ho.block g (Array.getElem?_eq_some_iff.1 hb').1 (fun h => by have := hT g h; omega)).trans hb', hk, hc, hs, rfl⟩⟩
theorem own_grown_ne {X Y : World} {N N' e e' k k' n n' : Nat} {u v : Value} {xs ys : List Value} (h : X.ownsRow N e k u n xs) (hv : X.ownsRow N' e' k' v n' ys) (he : e ≠ e') (hg : X.grownBy Y v.ownBlock) : Y.ownsRow N e k u n xs := by
  obtain ⟨hl, h⟩ := h
  rcases h with ⟨rfl, rfl⟩ | ⟨g, cap, cur, rfl, hgN, hb', hk, hc, hs, rfl⟩
  · exact ⟨hl, .inl ⟨rfl, rfl⟩⟩
  · refine ⟨hl, .inr ⟨g, cap, cur, rfl, hgN, (hg.block g (Array.getElem?_eq_some_iff.1 hb').1 (fun h => ?_)).trans hb', hk, hc, hs, rfl⟩⟩
    rcases hv.2 with ⟨rfl, _⟩ | ⟨g', cap', cur', rfl, _, hh, _⟩
    · simp [Value.ownBlock] at h
    · simp only [Value.ownBlock, Option.some.injEq] at h
      subst h
      rw [hh] at hb'
      injection hb' with hb'
      injection hb' with _ hb'
      exact he hb'.symm
theorem own_base {X : World} {N N' e k n : Nat} {v : Value} {xs : List Value} (h : X.ownsRow N e k v n xs) (hN : N' ≤ N) : X.ownsRow N' e k v n xs := by
  obtain ⟨hl, h⟩ := h
  rcases h with ⟨rfl, rfl⟩ | ⟨g, cap, cur, rfl, hg, hb', hk, hc, hs, rfl⟩
  · exact ⟨hl, .inl ⟨rfl, rfl⟩⟩
  · exact ⟨hl, .inr ⟨g, cap, cur, rfl, Nat.le_trans hN hg, hb', hk, hc, hs, rfl⟩⟩
/-- pairs that a loop has read -/
def RowA {α : Type} (f : α → Value) (E N : Nat) (v : Value) (acc : List (α × List UInt8)) (X : World) : Prop := ∃ ss : List Sl3, ss.length = acc.length ∧ X.ownsRow N E 2 v acc.length (pairCells ((acc.map fun p => f p.1).zip ss)) ∧ ∀ i (h : i < acc.length) (h' : i < ss.length), X.ownsRow N 5 1 ss[i].v acc[i].2.length (Lib.byteCells acc[i].2)
section
variable {α : Type} {f : α → Value} {E N : Nat} {v : Value} {acc : List (α × List UInt8)} {X Y : World}
theorem RowA.nil : RowA f E N (.slice none 0 0) [] X := ⟨[], rfl, World.ownsRow_nil _ _ _ _, fun i h => by simp at h⟩
theorem RowA.below (h : RowA f E N v acc X) (hb : Below X.heap.size X Y) : RowA f E N v acc Y := by
  obtain ⟨ss, h1, h2, h3⟩ := h
  exact ⟨ss, h1, own_below h2 hb, fun i a b => own_below (h3 i a b) hb⟩
theorem RowA.only {T : Nat → Prop} (h : RowA f E N v acc X) (ho : Only T X Y) (hT : ∀ j, T j → j < N) : RowA f E N v acc Y := by
  obtain ⟨ss, h1, h2, h3⟩ := h
  exact ⟨ss, h1, own_only h2 ho hT, fun i a b => own_only (h3 i a b) ho hT⟩
theorem RowA.form (h : RowA f E N v acc X) : ∃ a c, v = .slice a acc.length c := by
  obtain ⟨ss, h1, h2, h3⟩ := h
  rcases h2.2 with ⟨rfl, h0⟩ | ⟨g, cap, cur, rfl, _⟩
  · exact ⟨none, 0, by rw [h0]⟩
  · exact ⟨_, cap, rfl⟩
theorem pairs_snoc (fv : List Value) (ss : List Sl3) (h : fv.length = ss.length) (a : Value) (s : Sl3) : pairCells ((fv ++ [a]).zip (ss ++ [s])) = pairCells (fv.zip ss) ++ [a, s.v] := by
  rw [List.zip_append h]
  unfold pairCells
  simp
theorem RowA.push {s : Sl3} {x : α × List UInt8} {ss : List Sl3} {w' : World} {v' : Value} (h1 : ss.length = acc.length) (h2 : X.ownsRow N E 2 v acc.length (pairCells ((acc.map fun p => f p.1).zip ss))) (h3 : ∀ i (h : i < acc.length) (h' : i < ss.length), X.ownsRow N 5 1 ss[i].v acc[i].2.length (Lib.byteCells acc[i].2))
    (hE : 5 ≠ E) (hs : X.ownsRow N 5 1 s.v x.2.length (Lib.byteCells x.2)) (hg : X.grownBy w' v.ownBlock) (ho : w'.ownsRow N E 2 v' (acc.length + 1) (pairCells ((acc.map fun p => f p.1).zip ss) ++ [f x.1, s.v])) : RowA f E N v' (acc ++ [x]) w' := by
  refine ⟨ss ++ [s], by simp [h1], ?_, fun i a b => ?_⟩
  · rw [List.map_append, List.map_cons, List.map_nil, pairs_snoc _ _ (by simp [h1]), List.length_append]
    exact ho
  · by_cases hi : i < acc.length
    · have e1 : (acc ++ [x])[i] = acc[i] := List.getElem_append_left hi
      have e2 : (ss ++ [s])[i] = ss[i]'(by omega) := List.getElem_append_left (by omega)
      rw [e1, e2]
      exact own_grown_ne (h3 i hi (by omega)) h2 hE hg
    · obtain rfl : i = acc.length := by simp at a; omega
      have e1 : (acc ++ [x])[acc.length] = x := by simp
      have e2 : (ss ++ [s])[acc.length]'b = s := by rw [List.getElem_append_right (by omega)]; simp [h1]
      rw [e1, e2]
      exact own_grown_ne hs h2 hE hg
theorem sl_ext : ∀ {a b : Sl3}, a.v = b.v → a = b
  | ⟨a1, n1, c1⟩, ⟨a2, n2, c2⟩, h => by
    simp only [Sl3.v, Value.slice.injEq] at h
    obtain ⟨q1, q2, q3⟩ := h
    rw [q1, q2, q3]
/-- they lie there as a state's -/
theorem RowA.done (h : RowA f E N v acc X) (hl : acc.length ≤ 1000000) (ht : ∀ x ∈ acc, x.2.length ≤ 1000000) : ∃ s : Sl3, v = s.v ∧ PrI f 0 X.heap.size X s acc := by
  obtain ⟨ss, h1, h2, h3⟩ := h
  obtain ⟨s, e, hn, hc, hI⟩ := cells_own h2
  refine ⟨s, e, hn, by omega, by omega, ss, h1, hI.wide (Nat.zero_le _) (Nat.le_refl _), fun i a b => ?_⟩
  obtain ⟨s', e', hT⟩ := tx_own (h3 i a b) (by have := ht _ (List.getElem_mem a); omega)
  have : s' = ss[i] := sl_ext e'.symm
  rw [← this]
  exact hT.wide (Nat.zero_le _) (Nat.le_refl _)
end
end Go.Proofs.YtepdfkgadigafaaGreatDoor
