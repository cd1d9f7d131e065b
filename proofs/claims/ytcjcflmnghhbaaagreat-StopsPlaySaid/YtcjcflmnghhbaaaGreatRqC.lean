/-
  The reference's must at a reader right or wrong; what an atom's cases leave; of chapter 27.
  Conditions: as each theorem states them.
-/
import Derived.Test.YtcjcflmnghhbaaaGreatRqB
namespace Go.Proofs.YtcjcflmnghhbaaaGreat
open Go.RowKit
set_option linter.unusedVariables false
set_option linter.unusedSimpArgs false
open CM (Pc Ps)
/-- a reader, right or wrong -/
def RdSt (s : List UInt8) (g d n : Nat) (R : Except CM.Er Ps) (w : World) : Prop := match R with
  | .ok q => Good n w g s q ∧ CM.Ok s q ∧ Sg q.pc ∧ q.deep = d
  | .error (a, x) => Bad w g s d a x
theorem RdSt.only {K : Nat → Prop} {s : List UInt8} {g d n : Nat} {R : Except CM.Er Ps} {w w' : World} (h : RdSt s g d n R w) (ho : Only K w w') (hg : ¬ K g) (hK : ∀ k, n ≤ k → ¬ K k) : RdSt s g d n R w' := by
  unfold RdSt at h ⊢
  split at h
  · exact ⟨h.1.only ho hg hK, h.2⟩
  · exact Bad.only h ho hg
theorem RdSt.mono {s : List UInt8} {g d n m : Nat} {R : Except CM.Er Ps} {w : World} (h : RdSt s g d n R w) (hm : m ≤ n) : RdSt s g d m R w := by
  unfold RdSt at h ⊢
  split at h
  · exact ⟨h.1.mono hm, h.2⟩
  · exact h
theorem RdSt.lt {s : List UInt8} {g d n : Nat} {R : Except CM.Er Ps} {w : World} (h : RdSt s g d n R w) : g < w.heap.size := by
  unfold RdSt at h
  split at h
  · exact h.1.lt
  · exact h.lt
theorem next_st {s : List UInt8} {g d n : Nat} {p : Ps} {w : World} (hok : CM.Ok s p) (hd : p.deep = d) (h : NextIn s g p n w) : RdSt s g d n (p.next s) w := by
  unfold NextIn at h
  cases hn : p.next s with
  | error e =>
    obtain ⟨a, x⟩ := e
    rw [hn] at h
    simp only at h
    rw [← hd]; exact h
  | ok q =>
    rw [hn] at h
    simp only at h
    have := CM.next_mu hok.le hok.deep hn
    exact ⟨h, this.1, next_sg hn, this.2.1.trans hd⟩
/-- a piece that must be is passed over -/
def takeR (s : List UInt8) (k : Nat) (t : Pc → Bool) (R : Except CM.Er Ps) : Except CM.Er Ps := match R with
  | .error e => .error e
  | .ok p => if rk p.pc.kind = k ∧ t p.pc = true then p.next s else .error (p.pc.at_, 9)
def MustOut (s : List UInt8) (g d k : Nat) (t : Pc → Bool) (R : Except CM.Er Ps) (n : Nat) (w : World) (e : Ending) (w' : World) : Prop := ∃ (k' a : Nat) (u : List UInt8) (m : Int) (pa : Option Addr) (pm pc : Nat), e = .returned (.agg #[.int .i64 (k' : Int), .int .i64 (a : Int), strV u, .int .i64 m, .slice pa pm pc]) ∧ Oly g w w' ∧ RdSt s g d w.heap.size (takeR s k t R) w' ∧ ∀ q, takeR s k t R = .ok q → ∃ p, R = .ok p ∧ rk p.pc.kind = k ∧ t p.pc = true ∧ p.next s = .ok q ∧ u = rs p.pc ∧ m = p.pc.n ∧ (p.pc.kind = 3 → pm = p.pc.s.length ∧ p.pc.s.length ≤ pc ∧ BytesN n w' pa p.pc.s)
theorem must_yes_out {s : List UInt8} {g d k : Nat} {t : Pc → Bool} {p : Ps} {n : Nat} {w w' : World} {e : Ending} (hok : CM.Ok s p) (hd : p.deep = d) (hk : rk p.pc.kind = k) (ht : t p.pc = true) (h : Oly g w w' ∧ NextIn s g p w.heap.size w' ∧ ∃ v, e = .returned v ∧ PieceIs n p v w') : MustOut s g d k t (.ok p) n w e w' := by
  obtain ⟨o, hN, v, rfl, pa, pm, pc, rfl, h3⟩ := h
  have hT : takeR s k t (.ok p) = p.next s := by unfold takeR; simp only; rw [if_pos ⟨hk, ht⟩]
  refine ⟨_, _, _, _, pa, pm, pc, rfl, o, ?_, fun q hq => ⟨p, rfl, hk, ht, by rw [← hT]; exact hq, rfl, rfl, h3⟩⟩
  rw [hT]
  exact next_st hok hd hN
theorem must_no_out {s : List UInt8} {g d k : Nat} {t : Pc → Bool} {p : Ps} {n : Nat} {w w' : World} {e : Ending} (hd : p.deep = d) (hk : ¬ (rk p.pc.kind = k ∧ t p.pc = true)) (h : Oly g w w' ∧ Bad w' g s p.deep p.pc.at_ 9 ∧ ∃ v, e = .returned v ∧ SomeP v) : MustOut s g d k t (.ok p) n w e w' := by
  obtain ⟨o, hB, v, rfl, k', a, u, m, pa, pm, pc, rfl⟩ := h
  have hT : takeR s k t (.ok p) = .error (p.pc.at_, 9) := by unfold takeR; simp only; rw [if_neg hk]
  refine ⟨_, _, _, _, pa, pm, pc, rfl, o, ?_, fun q hq => ?_⟩
  · rw [hT, ← hd]; exact hB
  · rw [hT] at hq; cases hq
theorem must_bad_out {s : List UInt8} {g d k : Nat} {t : Pc → Bool} {n : Nat} {w w' : World} {e : Ending} {a : Nat} {x : Int} (h : Oly g w w' ∧ Bad w' g s d a x ∧ ∃ v, e = .returned v ∧ SomeP v) : MustOut s g d k t (.error (a, x)) n w e w' := by
  obtain ⟨o, hB, v, rfl, k', a', u, m, pa, pm, pc, rfl⟩ := h
  exact ⟨_, _, _, _, pa, pm, pc, rfl, o, hB, fun q hq => by cases hq⟩
/-- must, with words -/
theorem must_l {s : List UInt8} (hs : s.length ≤ 4096) {R : Except CM.Er Ps} {n g d : Nat} {w : World} (h : RdSt s g d n R w) (hgn : g < n) (hnw : n ≤ w.heap.size) (k : Nat) (l : List (List UInt8)) (ln b c : Nat) (hln : l.length = ln) (hl : StrsAt w b l) (h0 : 0 < ln) (hl2 : ln ≤ 1000) :
    Calls Tryz.prog 93 #[.pointer (some ⟨g, 0, none⟩), .int .i64 (k : Int), .slice (some ⟨b, 0, none⟩) ln c] w (MustOut s g d k (fun x => inS (rs x) l) R n w) := by
  cases R with
  | error e =>
    obtain ⟨a, x⟩ := e
    exact (must_bad s d a x w g h k _).mono (fun e w' hh => must_bad_out hh)
  | ok p =>
    obtain ⟨hG, hok, hsg, hd⟩ := h
    by_cases hk : rk p.pc.kind = k
    · cases hin : inS (rs p.pc) l with
      | true => exact (must_yes s hs p hok.le n w g hG hgn hnw k l ln b c hln hl h0 hl2 hk hin).mono (fun e w' hh => must_yes_out hok hd hk hin hh)
      | false => exact (must_none s hs p hok.le n w g hG hgn hnw k l ln b c hln hl h0 hl2 hk hin).mono (fun e w' hh => must_no_out hd (fun h => by rw [hin] at h; exact absurd h.2 (by simp)) hh)
    · exact (must_other s hs p hok.le n w g hG hgn hnw k _ hk).mono (fun e w' hh => must_no_out hd (fun h => hk h.1) hh)
/-- must, of a kind alone -/
theorem must_k {s : List UInt8} (hs : s.length ≤ 4096) {R : Except CM.Er Ps} {n g d : Nat} {w : World} (h : RdSt s g d n R w) (hgn : g < n) (hnw : n ≤ w.heap.size) (k : Nat) :
    Calls Tryz.prog 93 #[.pointer (some ⟨g, 0, none⟩), .int .i64 (k : Int), .slice none 0 0] w (MustOut s g d k (fun _ => true) R n w) := by
  cases R with
  | error e =>
    obtain ⟨a, x⟩ := e
    exact (must_bad s d a x w g h k _).mono (fun e w' hh => must_bad_out hh)
  | ok p =>
    obtain ⟨hG, hok, hsg, hd⟩ := h
    by_cases hk : rk p.pc.kind = k
    · exact (must_kind s hs p hok.le n w g hG hgn hnw k hk).mono (fun e w' hh => must_yes_out hok hd hk rfl hh)
    · exact (must_other s hs p hok.le n w g hG hgn hnw k _ hk).mono (fun e w' hh => must_no_out hd (fun h => hk h.1) hh)
/-- a node is stored where the result lies -/
theorem node_store {w W : World} {g B d lo : Nat} {s : List UInt8} {R : Except CM.Er Ps} (b : Blk W B 81 zeroN) (o : Oly g w W) (hB : w.heap.size = B) (hg : g < B) (hlo : B < lo) (h : RdSt s g d lo R W) (v0 v1 v2 v3 v4 : Value) :
    ∀ W', (((((W.setCell ⟨B, 0, none⟩ v0).setCell ⟨B, 1, none⟩ v1).setCell ⟨B, 2, none⟩ v2).setCell ⟨B, 3, none⟩ v3).setCell ⟨B, 4, none⟩ v4) = W' → Blk W' B 81 [v0, v1, v2, v3, v4] ∧ Oly g w W' ∧ RdSt s g d lo R W' ∧ ∀ n a t, B < n → BytesN n W a t → BytesN n W' a t := by
  intro W' hW
  subst hW
  have hO7 : Only (fun k => k = B) W (((((W.setCell ⟨B, 0, none⟩ v0).setCell ⟨B, 1, none⟩ v1).setCell ⟨B, 2, none⟩ v2).setCell ⟨B, 3, none⟩ v3).setCell ⟨B, 4, none⟩ v4) := (((((Only.refl (fun k => k = B) _).setCell (p := ⟨B, 0, none⟩) rfl _).setCell (p := ⟨B, 1, none⟩) rfl _).setCell (p := ⟨B, 2, none⟩) rfl _).setCell (p := ⟨B, 3, none⟩) rfl _).setCell (p := ⟨B, 4, none⟩) rfl _
  exact ⟨((((b.set 0 v0).set 1 v1).set 2 v2).set 3 v3).set 4 v4, only_fresh (only_fresh (only_fresh (only_fresh (only_fresh o (by omega) 0 _) (by omega) 1 _) (by omega) 2 _) (by omega) 3 _) (by omega) 4 _, h.only hO7 (by show ¬ g = B; omega) (fun k hk e => by omega), fun n a t hn hh => hh.only hO7 (fun k hk e => by omega)⟩
theorem is_false {x : Pc} {k : Nat} {w : List UInt8} (h : x.is k w = false) : ¬ (x.kind = k ∧ x.s = w) := by
  unfold CM.Pc.is at h
  simp only [Bool.and_eq_false_iff, beq_eq_false_iff_ne] at h
  rintro ⟨h1, h2⟩
  rcases h with h | h
  · exact h h1
  · exact h h2
theorem rk_eq {x : Nat} {k : Nat} (hk : k ≠ 4) (h5 : k ≠ 5) : rk x = k ↔ x = k := by
  unfold rk; split <;> omega
theorem rs_of {x : Pc} (h : x.kind ≠ 3) : rs x = x.s := by unfold rs; rw [if_neg h]
def sgsL : List (List UInt8) := [[61], [33, 61], [60], [60, 61], [62], [62, 61]]
theorem sgs_sgsL {x : List UInt8} : inS x sgsL = true ↔ x ∈ CM.sgs := by
  unfold inS sgsL CM.sgs
  simp only [List.any_cons, List.any_nil, Bool.or_false, Bool.or_eq_true, beq_iff_eq, List.mem_cons, List.not_mem_nil, or_false]
  constructor
  · rintro (h | h | h | h | h | h) <;> subst h <;> simp
  · rintro (h | h | h | h | h | h) <;> subst h <;> simp
/-- a number's sign: the reference's must is the program's take -/
theorem take_sign {s : List UInt8} {q : Ps} (hsg : Sg q.pc) : takeR s 4 (fun x => inS (rs x) sgsL) (.ok q) = match q.take s 4 with | .error e => .error e | .ok (_, r) => .ok r := by
  unfold takeR CM.Ps.take
  simp only
  by_cases h4 : q.pc.kind = 4
  · have hm := hsg.1 h4
    rw [if_pos ⟨by rw [h4]; rfl, by rw [rs_of (by omega)]; exact sgs_sgsL.2 hm⟩, if_pos h4]
    cases q.next s <;> rfl
  · rw [if_neg h4, if_neg ?_]
    rintro ⟨h1, h2⟩
    have h5 : q.pc.kind = 5 := by unfold rk at h1; split at h1 <;> omega
    rw [rs_of (by omega)] at h2
    have := sgs_sgsL.1 h2
    rcases hsg.2 h5 with e | e <;> rw [e] at this <;> simp [CM.sgs] at this
theorem take_kind {s : List UInt8} {k : Nat} (hk : k ≠ 4) (h5 : k ≠ 5) {q : Ps} : takeR s k (fun _ => true) (.ok q) = match q.take s k with | .error e => .error e | .ok (_, r) => .ok r := by
  unfold takeR CM.Ps.take
  simp only
  by_cases h4 : q.pc.kind = k
  · rw [if_pos ⟨(rk_eq hk h5).2 h4, trivial⟩, if_pos h4]
    cases q.next s <;> rfl
  · rw [if_neg h4, if_neg (fun h => h4 ((rk_eq hk h5).1 h.1))]
theorem take_fst {s : List UInt8} {q r : Ps} {k : Nat} {x : Pc} (h : q.take s k = .ok (x, r)) : x = q.pc ∧ q.pc.kind = k ∧ q.next s = .ok r := by
  unfold CM.Ps.take at h
  split at h
  · rename_i hk
    split at h
    · cases h
    · rename_i t ht
      simp only [Except.ok.injEq, Prod.mk.injEq] at h
      exact ⟨h.1.symm, hk, by rw [ht, h.2]⟩
  · cases h
theorem RdSt.out_err {s : List UInt8} {g d lo : Nat} {w w' : World} {a : Nat} {x : Int} {R : Except CM.Er (CM.M × Ps)} {v : List Value} (h : RdSt s g d lo (.error (a, x)) w') (hR : R = .error (a, x)) (ho : Oly g w w') (hv : SomeN v) : ROut s g d R w (.returned (.agg v.toArray)) w' := ROut.err hR ho hv h
theorem RdSt.out_ok {s : List UInt8} {g d lo : Nat} {w w' : World} {q : Ps} {R : Except CM.Er (CM.M × Ps)} {v : List Value} {phi : CM.M} (h : RdSt s g d lo (.ok q) w') (hlo : w.heap.size ≤ lo) (hR : R = .ok (phi, q)) (ho : Oly g w w') (hN : NodeIs w.heap.size w'.heap.size v phi w') : ROut s g d R w (.returned (.agg v.toArray)) w' := ROut.ok hR ho hN (h.1.mono hlo) h.2.2.1
theorem out_flag {s : List UInt8} {p q : Ps} {w w' : World} {g lo : Nat} (hk : p.pc.kind = 1) (hn : p.next s = .ok q) {f : CM.Sv → Bool} (hf : CM.flagOf p.pc.s = some f) (ho : Oly g w w') (hlo : w.heap.size ≤ lo) (h : RdSt s g p.deep lo (.ok q) w') : ROut s g p.deep (CM.atomS s p) w (.returned (.agg (nodeC p.pc.s none 0 0 [] 0 none 0 0).toArray)) w' := by
  refine h.out_ok hlo (phi := fun _ now => f now) ?_ ho (NodeIs.flag (Nat.le_refl _) hf _ _ _ _ _ _ _ _)
  unfold CM.atomS
  rw [if_pos hk, hf, hn]
theorem out_phase {s : List UInt8} {p q : Ps} {w w' : World} {g lo : Nat} (hk : p.pc.kind = 1) (hn : p.next s = .ok q) (hf : p.pc.s = CM.phaseW) (ho : Oly g w w') (hlo : w.heap.size ≤ lo) {u : List UInt8} (h : RdSt s g p.deep lo (takeR s 1 (fun x => inS (rs x) phsL) (.ok q)) w') (hu : ∀ r, takeR s 1 (fun x => inS (rs x) phsL) (.ok q) = .ok r → rk q.pc.kind = 1 ∧ inS (rs q.pc) phsL = true ∧ q.next s = .ok r ∧ u = rs q.pc) : ROut s g p.deep (CM.atomS s p) w (.returned (.agg (nodeC CM.phaseW none 0 0 u 0 none 0 0).toArray)) w' := by
  have hA : CM.atomS s p = CM.phaseS s q := by
    unfold CM.atomS
    rw [if_pos hk, hn, hf]
    rfl
  cases hT : takeR s 1 (fun x => inS (rs x) phsL) (.ok q) with
  | error e =>
    obtain ⟨a, x⟩ := e
    rw [hT] at h
    refine h.out_err ?_ ho ⟨_, _, _, _, _, _, _, _, _, rfl⟩
    rw [hA]
    unfold CM.phaseS
    unfold takeR at hT
    simp only at hT
    by_cases h1 : q.pc.kind = 1
    · rw [if_pos h1]
      by_cases h2 : inS (rs q.pc) phsL = true
      · rw [if_pos ⟨(rk_eq (by omega) (by omega)).2 h1, h2⟩] at hT
        rw [rs_of (by omega), in_phs] at h2
        obtain ⟨k, hk2⟩ := Option.isSome_iff_exists.1 h2
        rw [hk2, hT]
      · rw [if_neg (fun h => h2 h.2)] at hT
        rw [rs_of (by omega), in_phs] at h2
        have : CM.phOf q.pc.s = none := by simpa using h2
        rw [this]
        cases hT; rfl
    · rw [if_neg h1]
      rw [if_neg (fun h => h1 ((rk_eq (by omega) (by omega)).1 h.1))] at hT
      cases hT; rfl
  | ok r =>
    rw [hT] at h
    obtain ⟨h1, h2, h3, rfl⟩ := hu r hT
    have h1' : q.pc.kind = 1 := (rk_eq (by omega) (by omega)).1 h1
    rw [rs_of (by omega), in_phs] at h2
    obtain ⟨k, hk2⟩ := Option.isSome_iff_exists.1 h2
    rw [rs_of (by omega)]
    refine h.out_ok hlo (phi := fun _ now => now.phase == k) ?_ ho (NodeIs.phase (Nat.le_refl _) hk2 _ _ _ _ _ _ _)
    rw [hA]
    unfold CM.phaseS
    rw [if_pos h1', hk2, h3]
theorem atom_num {s : List UInt8} {p q : Ps} (hk : p.pc.kind = 1) (hn : p.next s = .ok q) (hf : CM.flagOf p.pc.s = none) {f : CM.Sv → Int} (hf2 : CM.numOf p.pc.s = some f) : CM.atomS s p = CM.numberS s f q := by
  unfold CM.atomS
  rw [if_pos hk, hf, hf2, hn]
theorem atom_txt {s : List UInt8} {p q : Ps} (hk : p.pc.kind = 1) (hn : p.next s = .ok q) (hf : CM.flagOf p.pc.s = none) {f : CM.Sv → List UInt8} (hf2 : CM.txtOf p.pc.s = some f) : CM.atomS s p = CM.textS s f q := by
  unfold CM.atomS
  rw [if_pos hk, hf, hf2, txt_num hf2, hn]
theorem out_num_chg {s : List UInt8} {p q : Ps} {w w' : World} {g lo : Nat} (hk : p.pc.kind = 1) (hn : p.next s = .ok q) (hf : CM.flagOf p.pc.s = none) {f : CM.Sv → Int} (hf2 : CM.numOf p.pc.s = some f) (hc : q.pc.is 1 CM.changedW = true) (ho : Oly g w w') (hlo : w.heap.size ≤ lo) (h : RdSt s g p.deep lo (q.next s) w') : ROut s g p.deep (CM.atomS s p) w (.returned (.agg (nodeC p.pc.s none 0 0 CM.changedW 0 none 0 0).toArray)) w' := by
  rw [atom_num hk hn hf hf2]
  unfold CM.numberS
  rw [if_pos hc]
  cases hT : q.next s with
  | error e =>
    obtain ⟨a, x⟩ := e
    rw [hT] at h
    exact h.out_err rfl ho ⟨_, _, _, _, _, _, _, _, _, rfl⟩
  | ok r =>
    rw [hT] at h
    exact h.out_ok hlo rfl ho (node_num_chg (Nat.le_refl _) hf2 _ _ _ _ _ _ _)
theorem out_txt_chg {s : List UInt8} {p q : Ps} {w w' : World} {g lo : Nat} (hk : p.pc.kind = 1) (hn : p.next s = .ok q) (hf : CM.flagOf p.pc.s = none) {f : CM.Sv → List UInt8} (hf2 : CM.txtOf p.pc.s = some f) (hc : q.pc.is 1 CM.changedW = true) (ho : Oly g w w') (hlo : w.heap.size ≤ lo) (h : RdSt s g p.deep lo (q.next s) w') : ROut s g p.deep (CM.atomS s p) w (.returned (.agg (nodeC p.pc.s none 0 0 CM.changedW 0 none 0 0).toArray)) w' := by
  rw [atom_txt hk hn hf hf2]
  unfold CM.textS
  rw [if_pos hc]
  cases hT : q.next s with
  | error e =>
    obtain ⟨a, x⟩ := e
    rw [hT] at h
    exact h.out_err rfl ho ⟨_, _, _, _, _, _, _, _, _, rfl⟩
  | ok r =>
    rw [hT] at h
    exact h.out_ok hlo rfl ho (node_txt_chg (Nat.le_refl _) hf2 _ _ _ _ _ _ _)
theorem node_num {lo hi : Nat} {W : World} (hh : hi ≤ W.heap.size) {what : List UInt8} {f : CM.Sv → Int} (hf : CM.numOf what = some f) (la : Option Addr) (ln lc : Nat) (n : Int) (ba : Option Addr) (bn bc : Nat) {u : List UInt8} (hu : u ∈ CM.sgs) : NodeIs lo hi (nodeC what la ln lc u n ba bn bc) (fun was now => CM.signOf u (f now) n) W := by
  unfold CM.sgs at hu
  simp only [List.mem_cons, List.not_mem_nil, or_false] at hu
  rcases hu with rfl | rfl | rfl | rfl | rfl | rfl
  · exact node_num_ne hh hf _ _ _ _ _ _ _
  · exact node_num_le hh hf _ _ _ _ _ _ _
  · exact node_num_ge hh hf _ _ _ _ _ _ _
  · exact node_num_eq hh hf _ _ _ _ _ _ _
  · exact node_num_lt hh hf _ _ _ _ _ _ _
  · exact node_num_gt hh hf _ _ _ _ _ _ _
theorem out_num {s : List UInt8} {p q : Ps} {w w' : World} {g lo : Nat} (hk : p.pc.kind = 1) (hn : p.next s = .ok q) (hf : CM.flagOf p.pc.s = none) {f : CM.Sv → Int} (hf2 : CM.numOf p.pc.s = some f) (hc : q.pc.is 1 CM.changedW = false) (hsg : Sg q.pc) (ho : Oly g w w') (hlo : w.heap.size ≤ lo) {u : List UInt8} {m : Int} {R1 : Except CM.Er Ps} (hR1 : takeR s 4 (fun x => inS (rs x) sgsL) (.ok q) = R1) (h : RdSt s g p.deep lo (takeR s 2 (fun _ => true) R1) w') (hu : ∀ r, R1 = .ok r → u = rs q.pc) (hm : ∀ t, takeR s 2 (fun _ => true) R1 = .ok t → ∃ r, R1 = .ok r ∧ m = r.pc.n) : ROut s g p.deep (CM.atomS s p) w (.returned (.agg (nodeC p.pc.s none 0 0 u m none 0 0).toArray)) w' := by
  rw [atom_num hk hn hf hf2]
  unfold CM.numberS
  rw [if_neg (by rw [hc]; simp)]
  rw [take_sign hsg] at hR1
  cases hT : q.take s 4 with
  | error e =>
    obtain ⟨a, x⟩ := e
    rw [hT] at hR1
    subst hR1
    exact RdSt.out_err h rfl ho ⟨_, _, _, _, _, _, _, _, _, rfl⟩
  | ok xr =>
    obtain ⟨x, r⟩ := xr
    rw [hT] at hR1
    simp only at hR1
    subst hR1
    obtain ⟨rfl, h4, h5⟩ := take_fst hT
    have hu' := hu r rfl
    rw [rs_of (by omega)] at hu'
    rw [take_kind (by omega) (by omega)] at h hm
    simp only
    cases hT2 : r.take s 2 with
    | error e =>
      obtain ⟨a, x⟩ := e
      rw [hT2] at h
      exact RdSt.out_err h rfl ho ⟨_, _, _, _, _, _, _, _, _, rfl⟩
    | ok yt =>
      obtain ⟨y, t⟩ := yt
      rw [hT2] at h
      obtain ⟨rfl, k2, k3⟩ := take_fst hT2
      obtain ⟨r', e1, e2⟩ := hm t (by rw [hT2])
      injection e1 with e1
      subst e1
      subst hu'
      subst e2
      exact RdSt.out_ok h hlo rfl ho (node_num (Nat.le_refl _) hf2 _ _ _ _ _ _ _ (hsg.1 h4))
def wrdsL : List (List UInt8) := [CM.isW, CM.hasW]
theorem next_ok_of {s : List UInt8} {q r : Ps} {k : Nat} {t : Pc → Bool} (h : takeR s k t (.ok q) = .ok r) : rk q.pc.kind = k ∧ t q.pc = true ∧ q.next s = .ok r := by
  unfold takeR at h
  simp only at h
  split at h
  · rename_i hh; exact ⟨hh.1, hh.2, h⟩
  · cases h
theorem rq_unqS_le : ∀ (n : Nat) (out : List UInt8) (a : Nat) (s : List UInt8), s.length ≤ n → (unqS out a s).1.length ≤ out.length + s.length
  | n, out, a, [], _ => by rw [unqS_nil]; simp
  | 0, _, _, c :: r, h => by simp at h
  | n + 1, out, a, c :: r, h => by
    have hr : r.length ≤ n := by simpa using h
    by_cases h1 : c = 34
    · subst h1; rw [unqS_end]; simp
    · by_cases h2 : c = 92
      · subst h2
        cases he : escS r with
        | error e => rw [unqS_err out a r e he]; simp
        | ok xn =>
          obtain ⟨x, m⟩ := xn
          rw [unqS_esc out a r x m he]
          have := rq_unqS_le n (out ++ [x]) (a + 1 + m) (r.drop m) (by rw [List.length_drop]; omega)
          rw [List.length_append, List.length_drop] at this
          simp only [List.length_cons, List.length_nil] at this ⊢
          omega
      · rw [unqS_plain out a c r h1 h2]
        have := rq_unqS_le n (out ++ [c]) (a + 1) r (by omega)
        rw [List.length_append] at this
        simp only [List.length_cons, List.length_nil] at this ⊢
        omega
theorem rq_unquote_le (s : List UInt8) (a : Nat) : (unquoteS s a).1.length ≤ s.length := by
  unfold unquoteS
  split
  · simp
  · rw [Int.toNat_natCast]
    cases h : s.drop a with
    | nil => simp
    | cons c r =>
      simp only
      split
      · simp
      · have := rq_unqS_le r.length [] (a + 1) r (Nat.le_refl _)
        have hl : (s.drop a).length = r.length + 1 := by rw [h]; simp
        rw [List.length_drop] at hl
        simp only [List.length_nil] at this
        omega
/-- a quote's text is no longer than the condition -/
theorem piece_len0 {s : List UInt8} {b : Nat} {t : List UInt8} {x : Pc} {c : Nat} (h : CM.pieceS s b t = .ok (x, c)) (hk : x.kind = 3) : x.s.length ≤ s.length := by
  unfold CM.pieceS at h
  cases t with
  | nil => simp only [Except.ok.injEq, Prod.mk.injEq] at h; obtain ⟨rfl, _⟩ := h; cases hk
  | cons d r =>
    simp only at h
    split at h
    · split at h
      · simp only [Except.ok.injEq, Prod.mk.injEq] at h; obtain ⟨rfl, _⟩ := h; cases hk
      · cases h
    · split at h
      · split at h
        · simp only [Except.ok.injEq, Prod.mk.injEq] at h; obtain ⟨rfl, _⟩ := h; cases hk
        · cases h
      · split at h
        · split at h
          · simp only [Except.ok.injEq, Prod.mk.injEq] at h; obtain ⟨rfl, _⟩ := h
            exact rq_unquote_le s b
          · cases h
        · split at h
          · simp only [Except.ok.injEq, Prod.mk.injEq] at h; obtain ⟨rfl, _⟩ := h; cases hk
          · split at h
            · cases h
            · simp only [Except.ok.injEq, Prod.mk.injEq] at h; obtain ⟨rfl, _⟩ := h; cases hk
theorem next_len {s : List UInt8} {p q : Ps} (h : p.next s = .ok q) (hk : q.pc.kind = 3) : q.pc.s.length ≤ s.length := by
  unfold CM.Ps.next at h
  split at h
  · cases h
  · rename_i x b hn
    simp only [Except.ok.injEq] at h
    subst h
    exact piece_len0 hn hk
theorem next_of_take {s : List UInt8} {q r : Ps} {k : Nat} {t : Pc → Bool} {R : Except CM.Er Ps} (h : takeR s k t (.ok q) = R) (e : R = .ok r) : q.next s = .ok r := (next_ok_of (h.trans e)).2.2
theorem piece_len {s : List UInt8} (hs : s.length ≤ 4096) {q r : Ps} (h : q.next s = .ok r) (hk : r.pc.kind = 3) : r.pc.s.length ≤ 100000 := by
  have := next_len h hk
  omega
theorem out_txt {s : List UInt8} {p q : Ps} {w w' : World} {g lo : Nat} (hk : p.pc.kind = 1) (hn : p.next s = .ok q) (hf : CM.flagOf p.pc.s = none) {f : CM.Sv → List UInt8} (hf2 : CM.txtOf p.pc.s = some f) (hc : q.pc.is 1 CM.changedW = false) (ho : Oly g w w') (hlo : w.heap.size ≤ lo) {u : List UInt8} {R1 : Except CM.Er Ps} (hR1 : takeR s 1 (fun x => inS (rs x) wrdsL) (.ok q) = R1) (h : RdSt s g p.deep lo (takeR s 3 (fun _ => true) R1) w') (hu : ∀ r, R1 = .ok r → u = rs q.pc) {ba : Option Addr} {bn bc : Nat} (hl : s.length ≤ 4096)
    (hm : ∀ t, takeR s 3 (fun _ => true) R1 = .ok t → ∃ r, R1 = .ok r ∧ bn = r.pc.s.length ∧ r.pc.s.length ≤ bc ∧ r.pc.s.length ≤ 100000 ∧ BytesN w.heap.size w' ba r.pc.s) : ROut s g p.deep (CM.atomS s p) w (.returned (.agg (nodeC p.pc.s none 0 0 u 0 ba bn bc).toArray)) w' := by
  rw [atom_txt hk hn hf hf2]
  unfold CM.textS
  rw [if_neg (by rw [hc]; simp)]
  cases hT : R1 with
  | error e =>
    obtain ⟨a, x⟩ := e
    rw [hT] at h hR1
    refine RdSt.out_err h ?_ ho ⟨_, _, _, _, _, _, _, _, _, rfl⟩
    unfold takeR at hR1
    simp only at hR1
    split at hR1
    · rename_i hh
      have h1 : q.pc.kind = 1 := (rk_eq (by omega) (by omega)).1 hh.1
      have h2 := hh.2
      rw [rs_of (by omega)] at h2
      unfold inS wrdsL at h2
      simp only [List.any_cons, List.any_nil, Bool.or_false, Bool.or_eq_true, beq_iff_eq] at h2
      rcases h2 with e | e
      · have i1 : q.pc.is 1 CM.hasW = false := by unfold CM.Pc.is; rw [← e]; simp
        have i2 : q.pc.is 1 CM.isW = true := by unfold CM.Pc.is; rw [← e, h1]; simp
        rw [if_neg (by rw [i1]; simp), if_pos i2, hR1]
      · have i1 : q.pc.is 1 CM.hasW = true := by unfold CM.Pc.is; rw [← e, h1]; simp
        rw [if_pos i1, hR1]
    · rename_i hh
      have i1 : q.pc.is 1 CM.hasW = false := by
        cases hb : q.pc.is 1 CM.hasW with
        | false => rfl
        | true => have := CM.is_kind hb; exact absurd ⟨(rk_eq (by omega) (by omega)).2 this.1, by rw [rs_of (by omega), this.2]; rfl⟩ hh
      have i2 : q.pc.is 1 CM.isW = false := by
        cases hb : q.pc.is 1 CM.isW with
        | false => rfl
        | true => have := CM.is_kind hb; exact absurd ⟨(rk_eq (by omega) (by omega)).2 this.1, by rw [rs_of (by omega), this.2]; rfl⟩ hh
      rw [if_neg (by rw [i1]; simp), if_neg (by rw [i2]; simp)]
      cases hR1; rfl
  | ok r =>
    rw [hT] at h hR1 hm hu
    obtain ⟨h1, h2, h3⟩ := next_ok_of hR1
    have h1' : q.pc.kind = 1 := (rk_eq (by omega) (by omega)).1 h1
    have hu' := hu r rfl
    rw [rs_of (by omega)] at h2 hu'
    rw [take_kind (by omega) (by omega)] at h hm
    have hfin : ∀ (phi : List UInt8 → CM.M) (hN : ∀ t : List UInt8, BytesI w.heap.size w'.heap.size w' ba t → t.length ≤ bc → t.length ≤ 100000 → NodeIs w.heap.size w'.heap.size (nodeC p.pc.s none 0 0 u 0 ba t.length bc) (phi t) w'), ROut s g p.deep (match r.take s 3 with | .error e => .error e | .ok (y, r) => .ok (phi y.s, r)) w (.returned (.agg (nodeC p.pc.s none 0 0 u 0 ba bn bc).toArray)) w' := by
      intro phi hN
      cases hT2 : r.take s 3 with
      | error e =>
        obtain ⟨a, x⟩ := e
        rw [hT2] at h
        exact RdSt.out_err h rfl ho ⟨_, _, _, _, _, _, _, _, _, rfl⟩
      | ok yt =>
        obtain ⟨y, t⟩ := yt
        rw [hT2] at h
        obtain ⟨rfl, k2, k3⟩ := take_fst hT2
        obtain ⟨r', e1, rfl, e3, e5, e4⟩ := hm t (by rw [hT2])
        injection e1 with e1
        subst e1
        refine RdSt.out_ok h hlo rfl ho (hN r.pc.s (fun h0 => ?_) e3 e5)
        obtain ⟨pp, oo, b1, b2, b3, b4⟩ := e4 h0
        exact ⟨pp, oo, b1, b2, b3, b4⟩
    unfold inS wrdsL at h2
    simp only [List.any_cons, List.any_nil, Bool.or_false, Bool.or_eq_true, beq_iff_eq] at h2
    rcases h2 with e | e
    · have i1 : q.pc.is 1 CM.hasW = false := by unfold CM.Pc.is; rw [← e]; simp
      have i2 : q.pc.is 1 CM.isW = true := by unfold CM.Pc.is; rw [← e, h1']; simp
      rw [if_neg (by rw [i1]; simp), if_pos i2, h3]
      rw [← e] at hu'
      subst hu'
      exact hfin (fun t _ now => f now == t) (fun t hb1 hb2 hb3 => node_txt_is (Nat.le_refl _) hf2 _ _ _ _ _ _ hb1 hb2 hb3)
    · have i1 : q.pc.is 1 CM.hasW = true := by unfold CM.Pc.is; rw [← e, h1']; simp
      rw [if_pos i1, h3]
      rw [← e] at hu'
      subst hu'
      exact hfin (fun t _ now => CM.hasS (f now) t) (fun t hb1 hb2 hb3 => node_txt_has (Nat.le_refl _) hf2 _ _ _ _ _ _ hb1 hb2 hb3)
end Go.Proofs.YtcjcflmnghhbaaaGreat
/-
  The reference's part: its own node, while an atom is read; of chapter 27.
  Conditions: as each theorem states them.
-/
namespace Go.Proofs.YtcjcflmnghhbaaaGreat
open Go.RowKit
set_option linter.unusedVariables false
set_option linter.unusedSimpArgs false
open CM (Pc Ps)
/-- the node (block nb), the place of the result (block B), the reader (block g) -/
structure NSt (s : List UInt8) (g d B nb lo : Nat) (w : World) (R : Except CM.Er Ps) (cs : List Value) (W : World) : Prop where
  n : Blk W nb 81 cs
  b : Blk W B 81 zeroN
  o : Oly g w W
  st : RdSt s g d lo R W
  ord : w.heap.size = B ∧ g < B ∧ B < nb ∧ B < lo ∧ lo ≤ W.heap.size
theorem NSt.keep {s : List UInt8} {g d B nb lo : Nat} {w W W' : World} {R R' : Except CM.Er Ps} {cs : List Value} (h : NSt s g d B nb lo w R cs W) (hO : Oly g W W') (hR : RdSt s g d W.heap.size R' W') : NSt s g d B nb W.heap.size w R' cs W' := by
  obtain ⟨o1, o2, o3, o4, o5⟩ := h.ord
  have := h.n.lt
  exact ⟨h.n.only hO (by show ¬ nb = g; omega), h.b.only hO (by show ¬ B = g; omega), Only.trans h.o hO, hR, o1, o2, o3, by omega, hO.size⟩
theorem NSt.below {s : List UInt8} {g d B nb lo : Nat} {w W W' : World} {R : Except CM.Er Ps} {cs : List Value} (h : NSt s g d B nb lo w R cs W) (hb : Below W.heap.size W W') : NSt s g d B nb lo w R cs W' := by
  obtain ⟨o1, o2, o3, o4, o5⟩ := h.ord
  exact ⟨h.n.below hb, h.b.below hb, Only.trans h.o (Only.of_below hb), h.st.only (K := fun _ => False) (Only.of_below hb) id (fun _ _ => id), o1, o2, o3, o4, Nat.le_trans o5 hb.size⟩
theorem NSt.put {s : List UInt8} {g d B nb lo : Nat} {w W : World} {R : Except CM.Er Ps} {cs : List Value} (h : NSt s g d B nb lo w R cs W) (hl : nb < lo) (j : Nat) (v : Value) : NSt s g d B nb lo w R (cs.set j v) (W.setCell ⟨nb, j, none⟩ v) ∧ ∀ n a t, nb < n → BytesN n W a t → BytesN n (W.setCell ⟨nb, j, none⟩ v) a t := by
  obtain ⟨o1, o2, o3, o4, o5⟩ := h.ord
  have hO : Only (fun k => k = nb) W (W.setCell ⟨nb, j, none⟩ v) := (Only.refl (fun k => k = nb) W).setCell (p := ⟨nb, j, none⟩) rfl v
  exact ⟨⟨h.n.set j v, h.b.only hO (by show ¬ B = nb; omega), only_fresh h.o (by omega) j v, h.st.only hO (by show ¬ g = nb; omega) (fun k hk e => by omega), o1, o2, o3, o4, Nat.le_trans o5 hO.size⟩, fun n a t hn hh => hh.only hO (fun k hk e => by omega)⟩
theorem NSt.store {s : List UInt8} {g d B nb lo : Nat} {w W : World} {R : Except CM.Er Ps} {cs : List Value} (h : NSt s g d B nb lo w R cs W) (v0 v1 v2 v3 v4 : Value) :
    ∀ W', (((((W.setCell ⟨B, 0, none⟩ v0).setCell ⟨B, 1, none⟩ v1).setCell ⟨B, 2, none⟩ v2).setCell ⟨B, 3, none⟩ v3).setCell ⟨B, 4, none⟩ v4) = W' → Blk W' B 81 [v0, v1, v2, v3, v4] ∧ Oly g w W' ∧ w.heap.size ≤ lo ∧ RdSt s g d lo R W' ∧ ∀ n a t, B < n → BytesN n W a t → BytesN n W' a t := fun W' e => by
  obtain ⟨o1, o2, o3, o4, o5⟩ := h.ord
  have := node_store h.b h.o o1 o2 o4 h.st v0 v1 v2 v3 v4 W' e
  exact ⟨this.1, this.2.1, by omega, this.2.2⟩
theorem NSt.e {s : List UInt8} {g d B nb lo : Nat} {w W : World} {q : Ps} {cs : List Value} (h : NSt s g d B nb lo w (.ok q) cs W) : W.cell? ⟨g, 9, none⟩ = some (.int .i64 0) := by
  obtain ⟨pa, pm, pc, hB, _⟩ := h.st.1
  exact (RAt.facts hB).2.2.2.2.2.2.2.2.2
theorem NSt.e_bad {s : List UInt8} {g d B nb lo : Nat} {w W : World} {a : Nat} {x : Int} {cs : List Value} (h : NSt s g d B nb lo w (.error (a, x)) cs W) : W.cell? ⟨g, 9, none⟩ = some (.int .i64 x) ∧ x ≠ 0 := by
  obtain ⟨r, hB, _, _, he, hx⟩ := h.st
  exact ⟨he ▸ (RAt.facts hB).2.2.2.2.2.2.2.2.2, hx⟩
theorem NSt.new {s : List UInt8} {g d B lo : Nat} {w W : World} {R : Except CM.Er Ps} (b : Blk W B 81 zeroN) (o : Oly g w W) (st : RdSt s g d lo R W) (hB : w.heap.size = B) (hg : g < B) (hl : B < lo) (hw : lo ≤ W.heap.size) (v0 v1 v2 v3 v4 : Value) : NSt s g d B W.heap.size lo w R [v0, v1, v2, v3, v4] (W.alloc (.cells #[v0, v1, v2, v3, v4] 81)) := by
  have hb : Below W.heap.size W (W.alloc (.cells #[v0, v1, v2, v3, v4] 81)) := bl_alloc (Below.refl _ _) _
  have hn := Blk.new W 81 [v0, v1, v2, v3, v4]
  have := b.lt
  exact ⟨hn, b.below hb, Only.trans o (Only.of_below hb), st.only (K := fun _ => False) (Only.of_below hb) id (fun _ _ => id), hB, hg, this, hl, Nat.le_trans hw hb.size⟩
/-- what the walk loads and stores -/
theorem NSt.cells {s : List UInt8} {g d B nb lo : Nat} {w W : World} {R : Except CM.Er Ps} {v0 v1 v2 v3 v4 : Value} (h : NSt s g d B nb lo w R [v0, v1, v2, v3, v4] W) : (W.cell? ⟨nb, 0, none⟩ = some v0 ∧ W.cell? ⟨nb, 1, none⟩ = some v1 ∧ W.cell? ⟨nb, 2, none⟩ = some v2 ∧ W.cell? ⟨nb, 3, none⟩ = some v3 ∧ W.cell? ⟨nb, 4, none⟩ = some v4) ∧ (W.cell? ⟨B, 0, none⟩ = some (.string ⟨#[]⟩) ∧ W.cell? ⟨B, 1, none⟩ = some (.slice none 0 0) ∧ W.cell? ⟨B, 2, none⟩ = some (.string ⟨#[]⟩) ∧ W.cell? ⟨B, 3, none⟩ = some (.int .i64 0) ∧ W.cell? ⟨B, 4, none⟩ = some (.slice none 0 0)) ∧ (W.frozen? ⟨B, 0, none⟩ = false ∧ W.frozen? ⟨B, 1, none⟩ = false ∧ W.frozen? ⟨B, 2, none⟩ = false ∧ W.frozen? ⟨B, 3, none⟩ = false ∧ W.frozen? ⟨B, 4, none⟩ = false) ∧ nb < W.heap.size ∧ B < W.heap.size ∧ g < W.heap.size ∧ B < nb :=
  ⟨⟨h.n.cell 0, h.n.cell 1, h.n.cell 2, h.n.cell 3, h.n.cell 4⟩, ⟨h.b.cell 0, h.b.cell 1, h.b.cell 2, h.b.cell 3, h.b.cell 4⟩, ⟨h.b.free 0, h.b.free 1, h.b.free 2, h.b.free 3, h.b.free 4⟩, h.n.lt, h.b.lt, h.st.lt, h.ord.2.2.1⟩
/-- is the piece 'changed'? -/
theorem NSt.is_yes {s : List UInt8} (hs : s.length ≤ 4096) {g d B nb lo : Nat} {w W : World} {q : Ps} {cs : List Value} (h : NSt s g d B nb lo w (.ok q) cs W) (t : List UInt8) (hi : q.pc.is 1 t = true) : Calls Tryz.prog 59 #[.pointer (some ⟨g, 0, none⟩), .int .i64 1, strV t] W fun e w' => e = .returned (.bool true) ∧ NSt s g d B nb W.heap.size w (q.next s) cs w' := by
  obtain ⟨hG, hok, hsg, hd⟩ := h.st
  obtain ⟨o1, o2, o3, o4, o5⟩ := h.ord
  refine (ris_yes s hs q hok.le lo W g hG (by omega) 1 t (by rw [rIs_word]; exact hi)).mono ?_
  rintro e w' ⟨rfl, hO, hN⟩
  exact ⟨rfl, h.keep hO (next_st hok hd hN)⟩
theorem NSt.is_no {s : List UInt8} {g d B nb lo : Nat} {w W : World} {q : Ps} {cs : List Value} (h : NSt s g d B nb lo w (.ok q) cs W) (t : List UInt8) (hi : q.pc.is 1 t = false) : Calls Tryz.prog 59 #[.pointer (some ⟨g, 0, none⟩), .int .i64 1, strV t] W fun e w' => e = .returned (.bool false) ∧ W = w' := by
  obtain ⟨hG, hok, hsg, hd⟩ := h.st
  exact ris_no s q lo W g hG 1 t (by rw [rIs_word]; exact hi)
/-- what must leaves -/
def NMust (s : List UInt8) (g d B nb lo k : Nat) (t : Pc → Bool) (w : World) (R : Except CM.Er Ps) (cs : List Value) (W : World) (e : Ending) (w' : World) : Prop := ∃ (k' a : Nat) (u : List UInt8) (m : Int) (pa : Option Addr) (pm pc : Nat), e = .returned (.agg #[.int .i64 (k' : Int), .int .i64 (a : Int), strV u, .int .i64 m, .slice pa pm pc]) ∧ NSt s g d B nb W.heap.size w (takeR s k t R) cs w' ∧ nb < W.heap.size ∧ ∀ q, takeR s k t R = .ok q → ∃ p, R = .ok p ∧ rk p.pc.kind = k ∧ t p.pc = true ∧ p.next s = .ok q ∧ u = rs p.pc ∧ m = p.pc.n ∧ (p.pc.kind = 3 → pm = p.pc.s.length ∧ p.pc.s.length ≤ pc ∧ BytesN lo w' pa p.pc.s)
theorem NSt.must_l {s : List UInt8} (hs : s.length ≤ 4096) {g d B nb lo : Nat} {w W : World} {R : Except CM.Er Ps} {cs : List Value} (h : NSt s g d B nb lo w R cs W) (k : Nat) (kz : Int) (hkz : (k : Int) = kz) (l : List (List UInt8)) (ln b c : Nat) (hln : l.length = ln) (hl : StrsAt W b l) (h0 : 0 < ln) (hl2 : ln ≤ 1000) : Calls Tryz.prog 93 #[.pointer (some ⟨g, 0, none⟩), .int .i64 kz, .slice (some ⟨b, 0, none⟩) ln c] W (NMust s g d B nb lo k (fun x => inS (rs x) l) w R cs W) := by
  subst hkz
  obtain ⟨o1, o2, o3, o4, o5⟩ := h.ord
  refine (Go.Proofs.YtcjcflmnghhbaaaGreat.must_l hs h.st (by omega) o5 k l ln b c hln hl h0 hl2).mono ?_
  rintro e w' ⟨k', a, u, m, pa, pm, pc, rfl, hO, hR, hq⟩
  exact ⟨k', a, u, m, pa, pm, pc, rfl, h.keep hO hR, h.n.lt, hq⟩
theorem NSt.must_k {s : List UInt8} (hs : s.length ≤ 4096) {g d B nb lo : Nat} {w W : World} {R : Except CM.Er Ps} {cs : List Value} (h : NSt s g d B nb lo w R cs W) (k : Nat) (kz : Int) (hkz : (k : Int) = kz) : Calls Tryz.prog 93 #[.pointer (some ⟨g, 0, none⟩), .int .i64 kz, .slice none 0 0] W (NMust s g d B nb lo k (fun _ => true) w R cs W) := by
  subst hkz
  obtain ⟨o1, o2, o3, o4, o5⟩ := h.ord
  refine (Go.Proofs.YtcjcflmnghhbaaaGreat.must_k hs h.st (by omega) o5 k).mono ?_
  rintro e w' ⟨k', a, u, m, pa, pm, pc, rfl, hO, hR, hq⟩
  exact ⟨k', a, u, m, pa, pm, pc, rfl, h.keep hO hR, h.n.lt, hq⟩
end Go.Proofs.YtcjcflmnghhbaaaGreat
/-
  The reference's part: atoms; of chapter 27. (Printed by gen_rq9.py.)
  Conditions: as each theorem states them.
-/
namespace Go.Proofs.YtcjcflmnghhbaaaGreat
open Go.RowKit
set_option linter.unusedVariables false
set_option linter.unusedSimpArgs false
open CM (Pc Ps)
theorem pce_s (a b c d e : Value) (w : World) : (Instr.field 102 (.agg #[a, b, c, d, e]) 2).run Tryz.prog w = .ok c w := by kernel_rfl
theorem pce_n (a b c d e : Value) (w : World) : (Instr.field 102 (.agg #[a, b, c, d, e]) 3).run Tryz.prog w = .ok d w := by kernel_rfl
theorem pce_b (a b c d e : Value) (w : World) : (Instr.field 102 (.agg #[a, b, c, d, e]) 4).run Tryz.prog w = .ok e w := by kernel_rfl
theorem phs_tab {w w' : World} {e : Ending} {l : List (List UInt8)} {k : Nat} (h : TabIs l k w e w') : ∃ b, e = .returned (.slice (some ⟨b, 0, none⟩) k k) ∧ StrsAt w' b l ∧ Below w.heap.size w w' := by
  obtain ⟨b, h1, h2, h3, _⟩ := h
  exact ⟨b, h1, h2, h3⟩
theorem rlen_of {s : List UInt8} {q : Ps} (h : q.pc.s.length ≤ 4096) : q.pc.s.length ≤ 100000 := by omega
theorem starts_txt {x : List UInt8} (h : inS x startsL = true) (h1 : CM.flagOf x = none) (h2 : CM.numOf x = none) (h3 : x ≠ CM.phaseW) : ∃ f, CM.txtOf x = some f := by
  unfold inS startsL at h
  have a1 := in_nums x
  have a2 := in_txts x
  have a3 := in_flgs x
  unfold inS at a1 a2 a3
  rw [h1] at a3
  rw [h2] at a1
  simp only [List.any_append, a1, a2, a3, List.any_cons, List.any_nil, Option.isSome_none, Bool.false_or, Bool.or_false, Bool.or_eq_true, beq_iff_eq] at h
  rcases h with h | h
  · exact Option.isSome_iff_exists.1 h
  · exact absurd h.symm h3
set_option maxHeartbeats 8000000 in
set_option maxRecDepth 100000 in
theorem rpart_atom_a {s : List UInt8} (hs : s.length ≤ 4096) {p : Ps} {w : World} {g nn : Nat} (hG : Good nn w g s p) (hgn : g < nn) (hok : CM.Ok s p) {kd : Nat} {ps : List UInt8} (hkd : rk p.pc.kind = kd) (hps : rs p.pc = ps) (q1 : ((kd : Int) == 1) = false) (q2 : ((kd : Int) == 4) = true) (q3 : (ps == [40]) = false) : Calls Tryz.prog 70 #[.pointer (some ⟨g, 0, none⟩)] w (ROut s g p.deep (CM.atomS s p) w) := by
  obtain ⟨i0, hi, hz0, hz1, hz2⟩ := info_parts infoStrR
  have hgw := hG.lt
  have hBz := Blk.new w 81 zeroN
  have hsz1 := size_alloc' w (.cells zeroN.toArray 81)
  have hG1 : Good nn (w.alloc (.cells zeroN.toArray 81)) g s p := hG.below (bl_alloc (Below.refl _ _) _)
  obtain ⟨pa, pm, pc, hB, _⟩ := hG
  have hBW : RAt (w.alloc (.cells zeroN.toArray 81)) g s (rdOf p pa pm pc) := hB.below (bl_alloc (Below.refl _ _) _)
  obtain ⟨c0, c1, c2, c3, c4, c5, c6, c7, c8, c9⟩ := RAt.facts hBW
  simp only [rdOf] at c1 c2 c3 c4 c5 c6 c7 c8 c9
  rw [hkd] at c2
  rw [hps] at c4
  have hOw1 : Oly g w (w.alloc (.cells zeroN.toArray 81)) := Only.of_below (bl_alloc (Below.refl _ _) _)
  obtain ⟨W1, hW1⟩ : ∃ W1, w.alloc (.cells zeroN.toArray 81) = W1 := ⟨_, rfl⟩
  rw [hW1] at hBW hBz hsz1 c0 c1 c2 c3 c4 c5 c6 c7 c8 c9 hOw1 hG1
  have hb1 : Below W1.heap.size W1 (W1.alloc (.cells #[.int .i64 (kd : Int), .int .i64 (p.pc.at_ : Int), strV ps, .int .i64 p.pc.n, .slice pa pm pc] 102)) := bl_alloc (Below.refl _ _) _
  have hP := Blk.new W1 102 [.int .i64 (kd : Int), .int .i64 (p.pc.at_ : Int), strV ps, .int .i64 p.pc.n, .slice pa pm pc]
  rw [show ([.int .i64 (kd : Int), .int .i64 (p.pc.at_ : Int), strV ps, .int .i64 p.pc.n, .slice pa pm pc] : List Value).toArray = #[.int .i64 (kd : Int), .int .i64 (p.pc.at_ : Int), strV ps, .int .i64 p.pc.n, .slice pa pm pc] from rfl] at hP
  obtain ⟨W2, hW2⟩ : ∃ W2, W1.alloc (.cells #[.int .i64 (kd : Int), .int .i64 (p.pc.at_ : Int), strV ps, .int .i64 p.pc.n, .slice pa pm pc] 102) = W2 := ⟨_, rfl⟩
  rw [hW2] at hP hb1
  have hgl1 : g < W1.heap.size := by omega
  have hs2 := hb1.size
  rw [hsz1] at hP
  have p0 := hP.cell 0
  have p1 := hP.cell 1
  have p2 := hP.cell 2
  simp only [List.getElem?_cons_zero, List.getElem?_cons_succ] at p0 p1 p2
  have pl := hP.lt
  have hgl2 : g < W2.heap.size := by omega
  have hatom := Lib.hid (fun wb (hBb : Below W2.heap.size W2 wb) r c (hst : StrsAt wb r startsL) => atom_must hs (((hG1.below hb1).below hBb).mono (Nat.min_le_left nn wb.heap.size)) (Nat.lt_min.2 ⟨hgn, Nat.lt_of_lt_of_le hgl2 hBb.size⟩) (Nat.min_le_right _ _) hok r c hst)
  have hB2 := hBz.below hb1
  have hkeep := Lib.hid (fun wb w' (hBb : Below W2.heap.size W2 wb) (ho : Oly g wb w') => (⟨(hB2.below hBb).only ho (by show ¬ w.heap.size = g; omega), Only.trans hOw1 (Only.trans (Only.of_below hb1) (Only.trans (Only.of_below hBb) ho))⟩ : Blk w' w.heap.size 81 zeroN ∧ Oly g w w'))
  have hown0 := Lib.hid (World.ownsRow_lit (base := W2.heap.size) (e := 9) (size := 1) W2 #[] 0 (Nat.le_refl _) (by decide) rfl)
  have ho0 : Hid ((W2.alloc (.cells #[] 9)).ownsRow W2.heap.size 9 1 (.slice (some ⟨W2.heap.size, 0, none⟩) 0 0) 0 []) := Lib.hid hown0.out
  have hB0 := Lib.hid (bl_alloc (Below.refl W2.heap.size W2) (.cells #[] 9))
  replace hW1 := Lib.hid hW1
  replace hW2 := Lib.hid hW2
  replace hkd := Lib.hid hkd
  replace hps := Lib.hid hps
  unfold zeroN nodeC at hW1
  clear hb1 hB2 hBz hBW hP hB hOw1 hG1 hown0
  go_enter Tryz.func70, Tryz.ntmps70
  go_upto_region 1 with fail
  rw [hW1.out]
  go_upto_region 4 with fail
  rw [hW2.out]
  go_upto_region 18 with (first
    | (go_at_call 40; (with_reducible refine (rnums_any _).mono ?_); rintro e w4 ⟨b4, rfl, h4, hb4, _⟩; have hB4 := Lib.hid (bl_trans hB0.out hb4); have ho4 := Lib.hid (nrow_only (K := fun _ => False) ho0.out (Only.of_below hb4) (fun _ _ => id)); have hs4 := Lib.hid (SrcAt.strs h4 4 rfl 4); clear h4 hb4)
    | (at_builtin; refine wpList_append_src _ rfl (.tmp 74) (.tmp 75) 107 rfl W2.heap.size 9 i0 (.string ⟨#[]⟩) 1 16 Tryz.underlying107 hi hz0 hz1 hz2 rfl (by decide) _ _ _ rfl ho4.out _ 4 _ rfl hs4.out rfl (strs_one _) (by unfold maxLen; omega) (by omega) hB4.out.size ?_; intro v5 w5 ho5 hg5; have hB5 := Lib.hid (hB4.out.grown hg5 hB4.out.size (fun j hj => (ho4.out.lt j hj).1)); obtain ⟨a5, c5, rfl⟩ := own_slice' ho5; replace ho5 := Lib.hid ho5; clear hg5)
    | (go_at_call 53; (with_reducible refine (rtxts_any _).mono ?_); rintro e w6 ⟨b6, rfl, h6, hb6, _⟩; have hB6 := Lib.hid (bl_trans hB5.out hb6); have ho6 := Lib.hid (nrow_only (K := fun _ => False) ho5.out (Only.of_below hb6) (fun _ _ => id)); have hs6 := Lib.hid (SrcAt.strs h6 4 rfl 4); clear h6 hb6)
    | (at_builtin; refine wpList_append_src _ rfl (.tmp 76) (.tmp 77) 107 rfl W2.heap.size 9 i0 (.string ⟨#[]⟩) 1 16 Tryz.underlying107 hi hz0 hz1 hz2 rfl (by decide) _ _ _ rfl ho6.out _ 4 _ rfl hs6.out rfl (strs_one _) (by unfold maxLen; omega) (by omega) hB6.out.size ?_; intro v7 w7 ho7 hg7; have hB7 := Lib.hid (hB6.out.grown hg7 hB6.out.size (fun j hj => (ho6.out.lt j hj).1)); obtain ⟨a7, c7, rfl⟩ := own_slice' ho7; replace ho7 := Lib.hid ho7; clear hg7)
    | (go_at_call 54; (with_reducible refine (rflgs_any _).mono ?_); rintro e w8 ⟨b8, rfl, h8, hb8, _⟩; have hB8 := Lib.hid (bl_trans hB7.out hb8); have ho8 := Lib.hid (nrow_only (K := fun _ => False) ho7.out (Only.of_below hb8) (fun _ _ => id)); have hs8 := Lib.hid (SrcAt.strs h8 5 rfl 5); clear h8 hb8)
    | (at_builtin; refine wpList_append_src _ rfl (.tmp 78) (.tmp 79) 107 rfl W2.heap.size 9 i0 (.string ⟨#[]⟩) 1 16 Tryz.underlying107 hi hz0 hz1 hz2 rfl (by decide) _ _ _ rfl ho8.out _ 5 _ rfl hs8.out rfl (strs_one _) (by unfold maxLen; omega) (by omega) hB8.out.size ?_; intro v9 w9 ho9 hg9; have hB9 := hB8.out.grown hg9 hB8.out.size (fun j hj => (ho8.out.lt j hj).1); obtain ⟨a9, c9, rfl⟩ := own_slice' ho9; have hBa := Lib.hid (bl_alloc hB9 (.cells #[.string ⟨#[112, 104, 97, 115, 101]⟩] 9)); have hoa := Lib.hid (ho9.alloc (.cells #[.string ⟨#[112, 104, 97, 115, 101]⟩] 9)); have hsa := Lib.hid (SrcAt.strs (StrsAt.new w9 [CM.phaseW]) 1 rfl 1); clear hg9 ho9 hB9)
    | (at_builtin; refine wpList_append_src _ rfl (.tmp 80) (.tmp 81) 107 rfl W2.heap.size 9 i0 (.string ⟨#[]⟩) 1 16 Tryz.underlying107 hi hz0 hz1 hz2 rfl (by decide) _ _ _ rfl hoa.out _ 1 _ rfl hsa.out rfl (strs_one _) (by unfold maxLen; omega) (by omega) hBa.out.size ?_; intro vb wb hob hgb; have hBb := Lib.hid (hBa.out.grown hgb hBa.out.size (fun j hj => (hoa.out.lt j hj).1)); obtain ⟨ab, cb, rfl⟩ := own_slice' hob; replace hob := Lib.hid hob; clear hgb))
  obtain ⟨r, c, he, hst, hrb⟩ := own_strs (l := startsL) hob.out (by decide)
  simp only [Value.slice.injEq] at he
  obtain ⟨rfl, -, rfl⟩ := he
  have hm := Lib.hid (hatom.out wb hBb.out r cb hst)
  replace hst := Lib.hid hst
  go_upto_region 19 with (first | (rw [pce_s]) | (go_at_call 93; (with_reducible refine hm.out.mono ?_); rintro e w6 ⟨k6, a6, t6, m6, pa6, pm6, pc6, rfl, hO6, hA6⟩; have hA6' := Lib.hid hA6; clear hA6))
  rcases hA6'.out with ⟨a, x, hat, hB6⟩ | ⟨q, _, hk1, _⟩
  rotate_left
  · exfalso; have := hkd.out; rw [hk1] at this; have e : kd = 1 := this.symm; rw [e] at q1; simp at q1
  clear hA6'
  have hst6 : RdSt s g p.deep wb.heap.size (.error (a, x)) w6 := hB6
  obtain ⟨d6, o6⟩ := hkeep.out wb w6 hBb.out hO6
  have hN0 : NSt s g p.deep w.heap.size w6.heap.size wb.heap.size w (.error (a, x)) [strV t6, .slice none 0 0, .string ⟨#[]⟩, .int .i64 0, .slice none 0 0] (w6.alloc (.cells #[strV t6, .slice none 0 0, .string ⟨#[]⟩, .int .i64 0, .slice none 0 0] 81)) := NSt.new d6 o6 hst6 rfl hgw (by have := hBb.out.size; omega) hO6.size _ _ _ _ _
  obtain ⟨W9, hW9⟩ : ∃ W9, w6.alloc (.cells #[strV t6, .slice none 0 0, .string ⟨#[]⟩, .int .i64 0, .slice none 0 0] 81) = W9 := ⟨_, rfl⟩
  rw [hW9] at hN0 ⊢
  obtain ⟨nb, hnb⟩ : ∃ nb, w6.heap.size = nb := ⟨_, rfl⟩
  rw [hnb] at hN0 ⊢
  have hkN := Lib.hid (fun w' (hb : Below W9.heap.size W9 w') => hN0.below hb)
  obtain ⟨bv, hbv⟩ : ∃ bv, inS t6 flgsL = bv := ⟨_, rfl⟩
  have hinn := Lib.hid (fun w' b (h : StrsAt w' b flgsL) => (by have := in_at t6 flgsL 5 rfl w' b 5 h (by decide); rwa [hbv] at this : Calls Tryz.prog 39 #[strV t6, .slice (some ⟨b, 0, none⟩) 5 5] w' fun e w'' => e = .returned (.bool bv) ∧ w' = w''))
  have n0 : W9.cell? ⟨nb, 0, none⟩ = some (strV t6) := hN0.n.cell 0
  have nl := hN0.n.lt
  replace hW9 := Lib.hid hW9
  replace hnb := Lib.hid hnb
  replace hN0 := Lib.hid hN0
  clear d6 o6 hO6 hkeep hatom hm hob hBb hoa hsa hBa hst
  have qx : (x != 0) = true := by have := hN0.out.e_bad.2; simpa using this
  replace hat := Lib.hid hat
  replace hbv := Lib.hid hbv
  cases bv with
  | true =>
    have sB : Below W9.heap.size W9 W9.drew := bl_drew (Below.refl _ _)
    have sl := (hkN.out _ sB).n.lt
    first | go_region_with (first | (go_at_call 54; (with_reducible refine (rflgs_any _).mono ?_); rintro e w5 ⟨b5, rfl, hS5, hb5, _⟩; have hb5' := bl_trans sB hb5; obtain ⟨⟨n0, n1, n2, n3, n4⟩, ⟨x0, x1, x2, x3, x4⟩, ⟨y0, y1, y2, y3, y4⟩, nl, bl, gl, hBn⟩ := NSt.cells (hkN.out _ hb5'); have hfin := Lib.hid ((hkN.out _ hb5').store (strV t6) (.slice none 0 0) (.string ⟨#[]⟩) (.int .i64 0) (.slice none 0 0)); replace hS5 := Lib.hid hS5) | (go_at_call 39; (with_reducible refine (hinn.out _ _ hS5.out).mono ?_); rintro e w7 ⟨rfl, rfl⟩)) | fail
    all_goals (
      go_wp2_with fail
      obtain ⟨z1, z2, z3, z4, z5⟩ := hfin.out _ rfl
      have e0 := z1.cell 0
      have e1 := z1.cell 1
      have e2 := z1.cell 2
      have e3 := z1.cell 3
      have e4 := z1.cell 4
      simp only [List.getElem?_cons_zero, List.getElem?_cons_succ] at e0 e1 e2 e3 e4
      clear z1
      refine bodyPost_ret (v := .agg #[strV t6, .slice none 0 0, .string ⟨#[]⟩, .int .i64 0, .slice none 0 0]) ?_ rfl ?_
      · simp [results, Tryz.results70, go_sem, e0, e1, e2, e3, e4]
      · exact RdSt.out_err z4 hat.out z2 ⟨t6, none, 0, 0, [], 0, none, 0, 0, rfl⟩)
  | false =>
    have sB : Below W9.heap.size W9 W9.drew := bl_drew (Below.refl _ _)
    have sI : Below W9.heap.size W9 W9.drew ∧ W9.drew.cell? ⟨nb, 0, none⟩ = some (strV t6) ∧ W9.drew.cell? ⟨g, 9, none⟩ = some (.int .i64 x) := ⟨sB, ⟨(hkN.out _ sB).n.cell 0, (hkN.out _ sB).e_bad.1⟩⟩
    have sl := (hkN.out _ sB).n.lt
    first | go_region_held3 (fun w' => Below W9.heap.size W9 w' ∧ w'.cell? ⟨nb, 0, none⟩ = some (strV t6) ∧ w'.cell? ⟨g, 9, none⟩ = some (.int .i64 x)) (first | with_reducible exact sI | with_reducible exact hI) (first | (go_at_call 54; (with_reducible refine (rflgs_any _).mono ?_); rintro e w5 ⟨b5, rfl, hS5, hb5, _⟩; have hb5' := bl_trans sB hb5; have hI : Below W9.heap.size W9 w5 ∧ w5.cell? ⟨nb, 0, none⟩ = some (strV t6) ∧ w5.cell? ⟨g, 9, none⟩ = some (.int .i64 x) := ⟨hb5', ⟨(hkN.out _ hb5').n.cell 0, (hkN.out _ hb5').e_bad.1⟩⟩; replace hS5 := Lib.hid hS5) | (go_at_call 39; (with_reducible refine (hinn.out _ _ hS5.out).mono ?_); rintro e w7 ⟨rfl, rfl⟩)) | fail
    have h5 := Lib.hid (hkN.out _ hI.1)
    have k4 := h5.out.n.lt
    clear sI sB hI hb5 hb5' hS5 hinn hkN sl
    clear k4 n0 nl
    obtain ⟨⟨n0, n1, n2, n3, n4⟩, ⟨x0, x1, x2, x3, x4⟩, ⟨y0, y1, y2, y3, y4⟩, nl, bl, gl, hBn⟩ := NSt.cells h5.out
    have hfin := Lib.hid (h5.out.store (strV t6) (.slice none 0 0) (.string ⟨#[]⟩) (.int .i64 0) (.slice none 0 0))
    go_wp2_with fail
    obtain ⟨z1, z2, z3, z4, z5⟩ := hfin.out _ rfl
    have e0 := z1.cell 0
    have e1 := z1.cell 1
    have e2 := z1.cell 2
    have e3 := z1.cell 3
    have e4 := z1.cell 4
    simp only [List.getElem?_cons_zero, List.getElem?_cons_succ] at e0 e1 e2 e3 e4
    clear z1
    refine bodyPost_ret (v := .agg #[strV t6, .slice none 0 0, .string ⟨#[]⟩, .int .i64 0, .slice none 0 0]) ?_ rfl ?_
    · simp [results, Tryz.results70, go_sem, e0, e1, e2, e3, e4]
    · exact RdSt.out_err z4 hat.out z2 ⟨t6, none, 0, 0, [], 0, none, 0, 0, rfl⟩
set_option maxHeartbeats 8000000 in
set_option maxRecDepth 100000 in
theorem rpart_atom_b {s : List UInt8} (hs : s.length ≤ 4096) {p : Ps} {w : World} {g nn : Nat} (hG : Good nn w g s p) (hgn : g < nn) (hok : CM.Ok s p) {kd : Nat} {ps : List UInt8} (hkd : rk p.pc.kind = kd) (hps : rs p.pc = ps) (q1 : ((kd : Int) == 1) = false) (q2 : ((kd : Int) == 4) = false) : Calls Tryz.prog 70 #[.pointer (some ⟨g, 0, none⟩)] w (ROut s g p.deep (CM.atomS s p) w) := by
  obtain ⟨i0, hi, hz0, hz1, hz2⟩ := info_parts infoStrR
  have hgw := hG.lt
  have hBz := Blk.new w 81 zeroN
  have hsz1 := size_alloc' w (.cells zeroN.toArray 81)
  have hG1 : Good nn (w.alloc (.cells zeroN.toArray 81)) g s p := hG.below (bl_alloc (Below.refl _ _) _)
  obtain ⟨pa, pm, pc, hB, _⟩ := hG
  have hBW : RAt (w.alloc (.cells zeroN.toArray 81)) g s (rdOf p pa pm pc) := hB.below (bl_alloc (Below.refl _ _) _)
  obtain ⟨c0, c1, c2, c3, c4, c5, c6, c7, c8, c9⟩ := RAt.facts hBW
  simp only [rdOf] at c1 c2 c3 c4 c5 c6 c7 c8 c9
  rw [hkd] at c2
  rw [hps] at c4
  have hOw1 : Oly g w (w.alloc (.cells zeroN.toArray 81)) := Only.of_below (bl_alloc (Below.refl _ _) _)
  obtain ⟨W1, hW1⟩ : ∃ W1, w.alloc (.cells zeroN.toArray 81) = W1 := ⟨_, rfl⟩
  rw [hW1] at hBW hBz hsz1 c0 c1 c2 c3 c4 c5 c6 c7 c8 c9 hOw1 hG1
  have hb1 : Below W1.heap.size W1 (W1.alloc (.cells #[.int .i64 (kd : Int), .int .i64 (p.pc.at_ : Int), strV ps, .int .i64 p.pc.n, .slice pa pm pc] 102)) := bl_alloc (Below.refl _ _) _
  have hP := Blk.new W1 102 [.int .i64 (kd : Int), .int .i64 (p.pc.at_ : Int), strV ps, .int .i64 p.pc.n, .slice pa pm pc]
  rw [show ([.int .i64 (kd : Int), .int .i64 (p.pc.at_ : Int), strV ps, .int .i64 p.pc.n, .slice pa pm pc] : List Value).toArray = #[.int .i64 (kd : Int), .int .i64 (p.pc.at_ : Int), strV ps, .int .i64 p.pc.n, .slice pa pm pc] from rfl] at hP
  obtain ⟨W2, hW2⟩ : ∃ W2, W1.alloc (.cells #[.int .i64 (kd : Int), .int .i64 (p.pc.at_ : Int), strV ps, .int .i64 p.pc.n, .slice pa pm pc] 102) = W2 := ⟨_, rfl⟩
  rw [hW2] at hP hb1
  have hgl1 : g < W1.heap.size := by omega
  have hs2 := hb1.size
  rw [hsz1] at hP
  have p0 := hP.cell 0
  have p1 := hP.cell 1
  have p2 := hP.cell 2
  simp only [List.getElem?_cons_zero, List.getElem?_cons_succ] at p0 p1 p2
  have pl := hP.lt
  have hgl2 : g < W2.heap.size := by omega
  have hatom := Lib.hid (fun wb (hBb : Below W2.heap.size W2 wb) r c (hst : StrsAt wb r startsL) => atom_must hs (((hG1.below hb1).below hBb).mono (Nat.min_le_left nn wb.heap.size)) (Nat.lt_min.2 ⟨hgn, Nat.lt_of_lt_of_le hgl2 hBb.size⟩) (Nat.min_le_right _ _) hok r c hst)
  have hB2 := hBz.below hb1
  have hkeep := Lib.hid (fun wb w' (hBb : Below W2.heap.size W2 wb) (ho : Oly g wb w') => (⟨(hB2.below hBb).only ho (by show ¬ w.heap.size = g; omega), Only.trans hOw1 (Only.trans (Only.of_below hb1) (Only.trans (Only.of_below hBb) ho))⟩ : Blk w' w.heap.size 81 zeroN ∧ Oly g w w'))
  have hown0 := Lib.hid (World.ownsRow_lit (base := W2.heap.size) (e := 9) (size := 1) W2 #[] 0 (Nat.le_refl _) (by decide) rfl)
  have ho0 : Hid ((W2.alloc (.cells #[] 9)).ownsRow W2.heap.size 9 1 (.slice (some ⟨W2.heap.size, 0, none⟩) 0 0) 0 []) := Lib.hid hown0.out
  have hB0 := Lib.hid (bl_alloc (Below.refl W2.heap.size W2) (.cells #[] 9))
  replace hW1 := Lib.hid hW1
  replace hW2 := Lib.hid hW2
  replace hkd := Lib.hid hkd
  replace hps := Lib.hid hps
  unfold zeroN nodeC at hW1
  clear hb1 hB2 hBz hBW hP hB hOw1 hG1 hown0
  go_enter Tryz.func70, Tryz.ntmps70
  go_upto_region 1 with fail
  rw [hW1.out]
  go_upto_region 4 with fail
  rw [hW2.out]
  go_upto_region 18 with (first
    | (go_at_call 40; (with_reducible refine (rnums_any _).mono ?_); rintro e w4 ⟨b4, rfl, h4, hb4, _⟩; have hB4 := Lib.hid (bl_trans hB0.out hb4); have ho4 := Lib.hid (nrow_only (K := fun _ => False) ho0.out (Only.of_below hb4) (fun _ _ => id)); have hs4 := Lib.hid (SrcAt.strs h4 4 rfl 4); clear h4 hb4)
    | (at_builtin; refine wpList_append_src _ rfl (.tmp 74) (.tmp 75) 107 rfl W2.heap.size 9 i0 (.string ⟨#[]⟩) 1 16 Tryz.underlying107 hi hz0 hz1 hz2 rfl (by decide) _ _ _ rfl ho4.out _ 4 _ rfl hs4.out rfl (strs_one _) (by unfold maxLen; omega) (by omega) hB4.out.size ?_; intro v5 w5 ho5 hg5; have hB5 := Lib.hid (hB4.out.grown hg5 hB4.out.size (fun j hj => (ho4.out.lt j hj).1)); obtain ⟨a5, c5, rfl⟩ := own_slice' ho5; replace ho5 := Lib.hid ho5; clear hg5)
    | (go_at_call 53; (with_reducible refine (rtxts_any _).mono ?_); rintro e w6 ⟨b6, rfl, h6, hb6, _⟩; have hB6 := Lib.hid (bl_trans hB5.out hb6); have ho6 := Lib.hid (nrow_only (K := fun _ => False) ho5.out (Only.of_below hb6) (fun _ _ => id)); have hs6 := Lib.hid (SrcAt.strs h6 4 rfl 4); clear h6 hb6)
    | (at_builtin; refine wpList_append_src _ rfl (.tmp 76) (.tmp 77) 107 rfl W2.heap.size 9 i0 (.string ⟨#[]⟩) 1 16 Tryz.underlying107 hi hz0 hz1 hz2 rfl (by decide) _ _ _ rfl ho6.out _ 4 _ rfl hs6.out rfl (strs_one _) (by unfold maxLen; omega) (by omega) hB6.out.size ?_; intro v7 w7 ho7 hg7; have hB7 := Lib.hid (hB6.out.grown hg7 hB6.out.size (fun j hj => (ho6.out.lt j hj).1)); obtain ⟨a7, c7, rfl⟩ := own_slice' ho7; replace ho7 := Lib.hid ho7; clear hg7)
    | (go_at_call 54; (with_reducible refine (rflgs_any _).mono ?_); rintro e w8 ⟨b8, rfl, h8, hb8, _⟩; have hB8 := Lib.hid (bl_trans hB7.out hb8); have ho8 := Lib.hid (nrow_only (K := fun _ => False) ho7.out (Only.of_below hb8) (fun _ _ => id)); have hs8 := Lib.hid (SrcAt.strs h8 5 rfl 5); clear h8 hb8)
    | (at_builtin; refine wpList_append_src _ rfl (.tmp 78) (.tmp 79) 107 rfl W2.heap.size 9 i0 (.string ⟨#[]⟩) 1 16 Tryz.underlying107 hi hz0 hz1 hz2 rfl (by decide) _ _ _ rfl ho8.out _ 5 _ rfl hs8.out rfl (strs_one _) (by unfold maxLen; omega) (by omega) hB8.out.size ?_; intro v9 w9 ho9 hg9; have hB9 := hB8.out.grown hg9 hB8.out.size (fun j hj => (ho8.out.lt j hj).1); obtain ⟨a9, c9, rfl⟩ := own_slice' ho9; have hBa := Lib.hid (bl_alloc hB9 (.cells #[.string ⟨#[112, 104, 97, 115, 101]⟩] 9)); have hoa := Lib.hid (ho9.alloc (.cells #[.string ⟨#[112, 104, 97, 115, 101]⟩] 9)); have hsa := Lib.hid (SrcAt.strs (StrsAt.new w9 [CM.phaseW]) 1 rfl 1); clear hg9 ho9 hB9)
    | (at_builtin; refine wpList_append_src _ rfl (.tmp 80) (.tmp 81) 107 rfl W2.heap.size 9 i0 (.string ⟨#[]⟩) 1 16 Tryz.underlying107 hi hz0 hz1 hz2 rfl (by decide) _ _ _ rfl hoa.out _ 1 _ rfl hsa.out rfl (strs_one _) (by unfold maxLen; omega) (by omega) hBa.out.size ?_; intro vb wb hob hgb; have hBb := Lib.hid (hBa.out.grown hgb hBa.out.size (fun j hj => (hoa.out.lt j hj).1)); obtain ⟨ab, cb, rfl⟩ := own_slice' hob; replace hob := Lib.hid hob; clear hgb))
  obtain ⟨r, c, he, hst, hrb⟩ := own_strs (l := startsL) hob.out (by decide)
  simp only [Value.slice.injEq] at he
  obtain ⟨rfl, -, rfl⟩ := he
  have hm := Lib.hid (hatom.out wb hBb.out r cb hst)
  replace hst := Lib.hid hst
  go_upto_region 19 with (first | (rw [pce_s]) | (go_at_call 93; (with_reducible refine hm.out.mono ?_); rintro e w6 ⟨k6, a6, t6, m6, pa6, pm6, pc6, rfl, hO6, hA6⟩; have hA6' := Lib.hid hA6; clear hA6))
  rcases hA6'.out with ⟨a, x, hat, hB6⟩ | ⟨q, _, hk1, _⟩
  rotate_left
  · exfalso; have := hkd.out; rw [hk1] at this; have e : kd = 1 := this.symm; rw [e] at q1; simp at q1
  clear hA6'
  have hst6 : RdSt s g p.deep wb.heap.size (.error (a, x)) w6 := hB6
  obtain ⟨d6, o6⟩ := hkeep.out wb w6 hBb.out hO6
  have hN0 : NSt s g p.deep w.heap.size w6.heap.size wb.heap.size w (.error (a, x)) [strV t6, .slice none 0 0, .string ⟨#[]⟩, .int .i64 0, .slice none 0 0] (w6.alloc (.cells #[strV t6, .slice none 0 0, .string ⟨#[]⟩, .int .i64 0, .slice none 0 0] 81)) := NSt.new d6 o6 hst6 rfl hgw (by have := hBb.out.size; omega) hO6.size _ _ _ _ _
  obtain ⟨W9, hW9⟩ : ∃ W9, w6.alloc (.cells #[strV t6, .slice none 0 0, .string ⟨#[]⟩, .int .i64 0, .slice none 0 0] 81) = W9 := ⟨_, rfl⟩
  rw [hW9] at hN0 ⊢
  obtain ⟨nb, hnb⟩ : ∃ nb, w6.heap.size = nb := ⟨_, rfl⟩
  rw [hnb] at hN0 ⊢
  have hkN := Lib.hid (fun w' (hb : Below W9.heap.size W9 w') => hN0.below hb)
  obtain ⟨bv, hbv⟩ : ∃ bv, inS t6 flgsL = bv := ⟨_, rfl⟩
  have hinn := Lib.hid (fun w' b (h : StrsAt w' b flgsL) => (by have := in_at t6 flgsL 5 rfl w' b 5 h (by decide); rwa [hbv] at this : Calls Tryz.prog 39 #[strV t6, .slice (some ⟨b, 0, none⟩) 5 5] w' fun e w'' => e = .returned (.bool bv) ∧ w' = w''))
  have n0 : W9.cell? ⟨nb, 0, none⟩ = some (strV t6) := hN0.n.cell 0
  have nl := hN0.n.lt
  replace hW9 := Lib.hid hW9
  replace hnb := Lib.hid hnb
  replace hN0 := Lib.hid hN0
  clear d6 o6 hO6 hkeep hatom hm hob hBb hoa hsa hBa hst
  have qx : (x != 0) = true := by have := hN0.out.e_bad.2; simpa using this
  replace hat := Lib.hid hat
  replace hbv := Lib.hid hbv
  cases bv with
  | true =>
    have sB : Below W9.heap.size W9 W9.drew := bl_drew (Below.refl _ _)
    have sl := (hkN.out _ sB).n.lt
    first | go_region_with (first | (go_at_call 54; (with_reducible refine (rflgs_any _).mono ?_); rintro e w5 ⟨b5, rfl, hS5, hb5, _⟩; have hb5' := bl_trans sB hb5; obtain ⟨⟨n0, n1, n2, n3, n4⟩, ⟨x0, x1, x2, x3, x4⟩, ⟨y0, y1, y2, y3, y4⟩, nl, bl, gl, hBn⟩ := NSt.cells (hkN.out _ hb5'); have hfin := Lib.hid ((hkN.out _ hb5').store (strV t6) (.slice none 0 0) (.string ⟨#[]⟩) (.int .i64 0) (.slice none 0 0)); replace hS5 := Lib.hid hS5) | (go_at_call 39; (with_reducible refine (hinn.out _ _ hS5.out).mono ?_); rintro e w7 ⟨rfl, rfl⟩)) | fail
    all_goals (
      go_wp2_with fail
      obtain ⟨z1, z2, z3, z4, z5⟩ := hfin.out _ rfl
      have e0 := z1.cell 0
      have e1 := z1.cell 1
      have e2 := z1.cell 2
      have e3 := z1.cell 3
      have e4 := z1.cell 4
      simp only [List.getElem?_cons_zero, List.getElem?_cons_succ] at e0 e1 e2 e3 e4
      clear z1
      refine bodyPost_ret (v := .agg #[strV t6, .slice none 0 0, .string ⟨#[]⟩, .int .i64 0, .slice none 0 0]) ?_ rfl ?_
      · simp [results, Tryz.results70, go_sem, e0, e1, e2, e3, e4]
      · exact RdSt.out_err z4 hat.out z2 ⟨t6, none, 0, 0, [], 0, none, 0, 0, rfl⟩)
  | false =>
    have sB : Below W9.heap.size W9 W9.drew := bl_drew (Below.refl _ _)
    have sI : Below W9.heap.size W9 W9.drew ∧ W9.drew.cell? ⟨nb, 0, none⟩ = some (strV t6) ∧ W9.drew.cell? ⟨g, 9, none⟩ = some (.int .i64 x) := ⟨sB, ⟨(hkN.out _ sB).n.cell 0, (hkN.out _ sB).e_bad.1⟩⟩
    have sl := (hkN.out _ sB).n.lt
    first | go_region_held3 (fun w' => Below W9.heap.size W9 w' ∧ w'.cell? ⟨nb, 0, none⟩ = some (strV t6) ∧ w'.cell? ⟨g, 9, none⟩ = some (.int .i64 x)) (first | with_reducible exact sI | with_reducible exact hI) (first | (go_at_call 54; (with_reducible refine (rflgs_any _).mono ?_); rintro e w5 ⟨b5, rfl, hS5, hb5, _⟩; have hb5' := bl_trans sB hb5; have hI : Below W9.heap.size W9 w5 ∧ w5.cell? ⟨nb, 0, none⟩ = some (strV t6) ∧ w5.cell? ⟨g, 9, none⟩ = some (.int .i64 x) := ⟨hb5', ⟨(hkN.out _ hb5').n.cell 0, (hkN.out _ hb5').e_bad.1⟩⟩; replace hS5 := Lib.hid hS5) | (go_at_call 39; (with_reducible refine (hinn.out _ _ hS5.out).mono ?_); rintro e w7 ⟨rfl, rfl⟩)) | fail
    have h5 := Lib.hid (hkN.out _ hI.1)
    have k4 := h5.out.n.lt
    clear sI sB hI hb5 hb5' hS5 hinn hkN sl
    clear k4 n0 nl
    obtain ⟨⟨n0, n1, n2, n3, n4⟩, ⟨x0, x1, x2, x3, x4⟩, ⟨y0, y1, y2, y3, y4⟩, nl, bl, gl, hBn⟩ := NSt.cells h5.out
    have hfin := Lib.hid (h5.out.store (strV t6) (.slice none 0 0) (.string ⟨#[]⟩) (.int .i64 0) (.slice none 0 0))
    go_wp2_with fail
    obtain ⟨z1, z2, z3, z4, z5⟩ := hfin.out _ rfl
    have e0 := z1.cell 0
    have e1 := z1.cell 1
    have e2 := z1.cell 2
    have e3 := z1.cell 3
    have e4 := z1.cell 4
    simp only [List.getElem?_cons_zero, List.getElem?_cons_succ] at e0 e1 e2 e3 e4
    clear z1
    refine bodyPost_ret (v := .agg #[strV t6, .slice none 0 0, .string ⟨#[]⟩, .int .i64 0, .slice none 0 0]) ?_ rfl ?_
    · simp [results, Tryz.results70, go_sem, e0, e1, e2, e3, e4]
    · exact RdSt.out_err z4 hat.out z2 ⟨t6, none, 0, 0, [], 0, none, 0, 0, rfl⟩
end Go.Proofs.YtcjcflmnghhbaaaGreat
