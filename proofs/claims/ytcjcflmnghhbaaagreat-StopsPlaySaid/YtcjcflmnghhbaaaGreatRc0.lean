/-
  The reference's reader of conditions: what lies in memory; words among words; of chapter 27.
  Conditions: as each theorem states them.
-/
import Derived.Test.YtcjcflmnghhbaaaGreatCondX
import Derived.Deep.LoopGhost
namespace Go.Proofs.YtcjcflmnghhbaaaGreat
open Go.RowKit
set_option linter.unusedVariables false
set_option linter.unusedSimpArgs false
open CM (Pc Ps)
/-- a reader -/
structure Rd where
  at_ : Nat
  kind : Nat
  pat : Nat
  ps : List UInt8
  pn : Int
  pa : Option Addr
  pm : Nat
  pc : Nat
  deep : Int
  bad : Int
  e : Int
def Rd.cells (s : List UInt8) (r : Rd) : List Value := [strV s, .int .i64 (r.at_ : Int), .int .i64 (r.kind : Int), .int .i64 (r.pat : Int), strV r.ps, .int .i64 r.pn, .slice r.pa r.pm r.pc, .int .i64 r.deep, .int .i64 r.bad, .int .i64 r.e]
def rk (k : Nat) : Nat := if k = 5 then 4 else k
def rs (x : Pc) : List UInt8 := if x.kind = 3 then [] else x.s
/-- bytes in a block from n on -/
def BytesN (n : Nat) (w : World) (a : Option Addr) (xs : List UInt8) : Prop := 0 < xs.length → ∃ p o, a = some ⟨p, o, none⟩ ∧ n ≤ p ∧ p < w.heap.size ∧ ByteRow w p o xs
theorem BytesN.only {K : Nat → Prop} {n : Nat} {w w' : World} {a : Option Addr} {xs : List UInt8} (h : BytesN n w a xs) (ho : Only K w w') (hK : ∀ k, n ≤ k → ¬ K k) : BytesN n w' a xs := fun h0 => by
  obtain ⟨p, o, e, hn, hp, hr⟩ := h h0
  exact ⟨p, o, e, hn, Nat.lt_of_lt_of_le hp ho.size, fun i hi => (World.cell?_of_block (a := ⟨p, o + i, none⟩) (ho.block p hp (hK p hn))).trans (hr i hi)⟩
theorem BytesN.mono {n m : Nat} {w : World} {a : Option Addr} {xs : List UInt8} (h : BytesN n w a xs) (hm : m ≤ n) : BytesN m w a xs := fun h0 => by
  obtain ⟨p, o, e, hn, hp, hr⟩ := h h0
  exact ⟨p, o, e, Nat.le_trans hm hn, hp, hr⟩
theorem BytesN.at {n : Nat} {w : World} {a : Option Addr} {xs : List UInt8} (h : BytesN n w a xs) : BytesAt w a xs := fun h0 => by
  obtain ⟨p, o, e, hn, hp, hr⟩ := h h0
  exact ⟨p, o, e, hp, hr⟩
/-- the reader in memory, with a piece, and nothing wrong -/
def rdOf (p : Ps) (pa : Option Addr) (pm pc : Nat) : Rd := ⟨p.at_, rk p.pc.kind, p.pc.at_, rs p.pc, p.pc.n, pa, pm, pc, (p.deep : Int), 0, 0⟩
def Good (n : Nat) (w : World) (g : Nat) (s : List UInt8) (p : Ps) : Prop := ∃ pa pm pc, Blk w g 104 ((rdOf p pa pm pc).cells s) ∧ (p.pc.kind = 3 → pm = p.pc.s.length ∧ p.pc.s.length ≤ pc ∧ BytesN n w pa p.pc.s)
/-- with something wrong -/
def Bad (w : World) (g : Nat) (s : List UInt8) (d : Nat) (a : Nat) (x : Int) : Prop := ∃ r : Rd, Blk w g 104 (r.cells s) ∧ r.deep = (d : Int) ∧ r.bad = (a : Int) ∧ r.e = x ∧ x ≠ 0
theorem Good.lt {n : Nat} {w : World} {g : Nat} {s : List UInt8} {p : Ps} (h : Good n w g s p) : g < w.heap.size := by obtain ⟨_, _, _, h, _⟩ := h; exact h.lt
theorem Bad.lt {w : World} {g : Nat} {s : List UInt8} {d a : Nat} {x : Int} (h : Bad w g s d a x) : g < w.heap.size := by obtain ⟨_, h, _⟩ := h; exact h.lt
theorem Good.only {K : Nat → Prop} {n : Nat} {w w' : World} {g : Nat} {s : List UInt8} {p : Ps} (h : Good n w g s p) (ho : Only K w w') (hg : ¬ K g) (hK : ∀ k, n ≤ k → ¬ K k) : Good n w' g s p := by
  obtain ⟨pa, pm, pc, h1, h2⟩ := h
  exact ⟨pa, pm, pc, h1.only ho hg, fun hk => ⟨(h2 hk).1, (h2 hk).2.1, (h2 hk).2.2.only ho hK⟩⟩
theorem Good.below {n : Nat} {w w' : World} {g : Nat} {s : List UInt8} {p : Ps} (h : Good n w g s p) (hb : Below w.heap.size w w') : Good n w' g s p := h.only (K := fun _ => False) (Only.of_below hb) id (fun _ _ => id)
theorem Good.mono {n m : Nat} {w : World} {g : Nat} {s : List UInt8} {p : Ps} (h : Good n w g s p) (hm : m ≤ n) : Good m w g s p := by
  obtain ⟨pa, pm, pc, h1, h2⟩ := h
  exact ⟨pa, pm, pc, h1, fun hk => ⟨(h2 hk).1, (h2 hk).2.1, (h2 hk).2.2.mono hm⟩⟩
theorem Bad.below {w w' : World} {g : Nat} {s : List UInt8} {d a : Nat} {x : Int} (h : Bad w g s d a x) (hb : Below w.heap.size w w') : Bad w' g s d a x := by
  obtain ⟨r, h1, h2⟩ := h
  exact ⟨r, h1.below hb, h2⟩
/-- something goes wrong -/
theorem rfail_ok {r : Rd} {w : World} {g : Nat} {s : List UInt8} (h : Blk w g 104 (r.cells s)) (hr : r.e = 0) (a : Nat) (x : Int) :
    Calls Tryz.prog 36 #[.pointer (some ⟨g, 0, none⟩), .int .i64 (a : Int), .int .i64 x] w fun e w' => e = .returned (.tuple #[]) ∧ Blk w' g 104 (({ r with bad := (a : Int), e := x } : Rd).cells s) ∧ Oly g w w' := by
  have hP := Lib.hid ((h.set 8 (.int .i64 (a : Int))).set 9 (.int .i64 x))
  have hO := Lib.hid ((((Only.refl (fun k => k = g) w).setCell (p := ⟨g, 8, none⟩) rfl (.int .i64 (a : Int))).setCell (p := ⟨g, 9, none⟩) rfl (.int .i64 x) : Oly g w _))
  have c9 : w.cell? ⟨g, 9, none⟩ = some (.int .i64 r.e) := h.cell 9
  have c8 : w.cell? ⟨g, 8, none⟩ = some (.int .i64 r.bad) := h.cell 8
  have f9 := h.free 9
  have f8 := h.free 8
  have hl := h.lt
  rw [hr] at c9
  clear h hr
  go_enter Tryz.func36, Tryz.ntmps36
  go_wp2_with fail
  all_goals (first | go_end0 | refine bodyPost_ret (results_none rfl _ _ _) rfl ?_)
  all_goals exact ⟨rfl, hP.out, hO.out⟩
theorem rfail_no {r : Rd} {w : World} {g : Nat} {s : List UInt8} (h : Blk w g 104 (r.cells s)) (hr : r.e ≠ 0) (a x : Int) :
    Calls Tryz.prog 36 #[.pointer (some ⟨g, 0, none⟩), .int .i64 a, .int .i64 x] w fun e w' => e = .returned (.tuple #[]) ∧ w = w' := by
  have c9 : w.cell? ⟨g, 9, none⟩ = some (.int .i64 r.e) := h.cell 9
  have q0 : (r.e == 0) = false := by simpa using hr
  clear h hr
  go_enter Tryz.func36, Tryz.ntmps36
  go_wp2_with fail
  all_goals (first | go_end0 | refine bodyPost_ret (results_none rfl _ _ _) rfl ?_)
  all_goals exact ⟨rfl, rfl⟩
/-- bytes of a row of the call's own -/
theorem BytesN.of_own {w : World} {base : Nat} {a : Option Addr} {n c : Nat} {l : List UInt8} (h : w.ownsRow base 5 1 (.slice a n c) l.length (Lib.byteCells l)) : n = l.length ∧ l.length ≤ c ∧ BytesN base w a l := by
  rcases h.2 with ⟨h1, h2⟩ | ⟨g, cap, cur, h1, h2, h3, h4, h5, h6, h7⟩
  · simp only [Value.slice.injEq] at h1
    obtain ⟨rfl, rfl, rfl⟩ := h1
    exact ⟨h2.symm, by omega, fun h0 => absurd h2 (by omega)⟩
  · simp only [Value.slice.injEq] at h1
    obtain ⟨rfl, rfl, rfl⟩ := h1
    refine ⟨rfl, h4, fun _ => ⟨g, 0, rfl, h2, (Array.getElem?_eq_some_iff.1 h3).1, fun i hi => ?_⟩⟩
    have h8 : (Lib.byteCells l)[i]? = some (.int .u8 (l[i].toNat : Int)) := by simp [Lib.byteCells, hi]
    rw [← h7, List.getElem?_take, if_pos (by omega)] at h8
    simp only [World.cell?, h3, Nat.zero_add]
    simpa using h8
/-- words in memory -/
def StrsAt (w : World) (b : Nat) (l : List (List UInt8)) : Prop := b < w.heap.size ∧ ∀ i (h : i < l.length), w.cell? ⟨b, i, none⟩ = some (strV l[i])
theorem StrsAt.below {w w' : World} {b : Nat} {l : List (List UInt8)} (h : StrsAt w b l) (hb : Below w.heap.size w w') : StrsAt w' b l :=
  ⟨Nat.lt_of_lt_of_le h.1 hb.size, fun i hi => (hb.cell (p := ⟨b, i, none⟩) h.1).trans (h.2 i hi)⟩
theorem StrsAt.only {K : Nat → Prop} {w w' : World} {b : Nat} {l : List (List UInt8)} (h : StrsAt w b l) (ho : Only K w w') (hn : ¬ K b) : StrsAt w' b l :=
  ⟨Nat.lt_of_lt_of_le h.1 ho.size, fun i hi => (World.cell?_of_block (a := ⟨b, i, none⟩) (ho.block b h.1 hn)).trans (h.2 i hi)⟩
theorem StrsAt.new (w : World) (l : List (List UInt8)) : StrsAt (w.alloc (.cells (l.map strV).toArray 9)) w.heap.size l :=
  ⟨(Blk.new w 9 (l.map strV)).lt, fun i hi => by rw [(Blk.new w 9 (l.map strV)).cell i, List.getElem?_map, List.getElem?_eq_getElem hi]; rfl⟩
def inS (s : List UInt8) (l : List (List UInt8)) : Bool := l.any fun x => x == s
theorem inS_no {s : List UInt8} {l : List (List UInt8)} (h : ∀ i (hi : i < l.length), (l[i] == s) = false) : inS s l = false := by
  unfold inS
  rw [List.any_eq_false]
  intro x hx
  obtain ⟨i, hi, rfl⟩ := List.getElem_of_mem hx
  rw [h i hi]; simp
theorem inS_yes {s : List UInt8} {l : List (List UInt8)} {i : Nat} (hi : i < l.length) (h : (l[i] == s) = true) : inS s l = true := by
  unfold inS
  rw [List.any_eq_true]
  exact ⟨_, List.getElem_mem hi, h⟩
set_option maxHeartbeats 4000000 in
set_option maxRecDepth 100000 in
theorem in_any (s : List UInt8) (l : List (List UInt8)) (w : World) (b c : Nat) (h : StrsAt w b l) (hl : l.length ≤ 1000) :
    Calls Tryz.prog 39 #[strV s, .slice (some ⟨b, 0, none⟩) l.length c] w fun e w' => e = .returned (.bool (inS s l)) ∧ w = w' := by
  obtain ⟨hb, hc⟩ := h
  replace hc := Lib.hid hc
  go_enter Tryz.func39, Tryz.ntmps39
  go_wp2_with fail
  go_loopg [5] l.length (fun gh v wr => ∃ i : Nat, gh = l.length - i ∧ v = .int .i64 (i : Int) ∧ i ≤ l.length ∧ Hid (∀ j (hj : j < l.length), j < i → (l[j] == s) = false) ∧ w = wr)
  case atStart => exact ⟨0, by omega, rfl, Nat.zero_le _, Lib.hid (fun j _ h => absurd h (Nat.not_lt_zero _)), rfl⟩
  case round =>
    obtain ⟨i, rfl, rfl, hi, hn, rfl⟩ := hrel
    by_cases hlt : i < l.length
    · have ck := hc.out i hlt
      have z0 : (0 : Int) ≤ (i : Int) := by omega
      have z1 : (i : Int) < (l.length : Int) := by omega
      by_cases hq : (l[i] == s) = true
      · have hy := Lib.hid (inS_yes hlt hq)
        generalize l[i] = x at *
        go_wp2_with fail
        go_ret
        exact ⟨by rw [hy.out]; rfl, rfl⟩
      · have hq' : (l[i] == s) = false := by simpa using hq
        have hn2 := Lib.hid (fun j (hj : j < l.length) (hji : j < i + 1) => (by
          by_cases e : j = i
          · subst e; exact hq'
          · exact hn.out j hj (by omega) : (l[j] == s) = false))
        clear hq
        generalize l[i] = x at ck hq'
        go_wp2_with fail
        go_roundg (l.length - (i + 1))
        case measure => omega
        case rel => exact ⟨i + 1, rfl, by go_num, by omega, hn2, rfl⟩
    · obtain rfl : i = l.length := by omega
      have hy := Lib.hid (inS_no (fun j hj => hn.out j hj hj))
      go_wp2_with fail
      go_ret
      exact ⟨by rw [hy.out]; rfl, rfl⟩
def numsL : List (List UInt8) := [CM.lineW, CM.pcW, CM.exitW, CM.waitsW]
def txtsL : List (List UInt8) := [CM.patternW, CM.holdW, CM.restW, CM.outW]
def flgsL : List (List UInt8) := [CM.substW, CM.silentW, CM.quitW, CM.againW, CM.failedW]
def phsL : List (List UInt8) := [CM.beginW, CM.bodyW, CM.endingW, CM.haltedW]
def othL : List (List UInt8) := [CM.orW, CM.andW, CM.notW, CM.isW, CM.hasW, CM.changedW, CM.phaseW]
def TabIs (l : List (List UInt8)) (k : Nat) (w : World) (e : Ending) (w' : World) : Prop := ∃ b, e = .returned (.slice (some ⟨b, 0, none⟩) k k) ∧ StrsAt w' b l ∧ Below w.heap.size w w' ∧ w.heap.size ≤ b
theorem TabIs.new (l : List (List UInt8)) (k : Nat) (w : World) : TabIs l k w (.returned (.slice (some ⟨w.heap.size, 0, none⟩) k k)) (w.alloc (.cells (l.map strV).toArray 9)) := ⟨_, rfl, StrsAt.new w l, bl_alloc (Below.refl _ _) _, Nat.le_refl _⟩
theorem rnums_any (w : World) : Calls Tryz.prog 40 #[] w (TabIs numsL 4 w) := by
  have h := Lib.hid (TabIs.new numsL 4 w)
  go_enter Tryz.func40, Tryz.ntmps40
  go_wp2_with fail
  go_ret
  exact h.out
theorem rtxts_any (w : World) : Calls Tryz.prog 53 #[] w (TabIs txtsL 4 w) := by
  have h := Lib.hid (TabIs.new txtsL 4 w)
  go_enter Tryz.func53, Tryz.ntmps53
  go_wp2_with fail
  go_ret
  exact h.out
theorem rflgs_any (w : World) : Calls Tryz.prog 54 #[] w (TabIs flgsL 5 w) := by
  have h := Lib.hid (TabIs.new flgsL 5 w)
  go_enter Tryz.func54, Tryz.ntmps54
  go_wp2_with fail
  go_ret
  exact h.out
theorem rphs_any (w : World) : Calls Tryz.prog 38 #[] w (TabIs phsL 4 w) := by
  have h := Lib.hid (TabIs.new phsL 4 w)
  go_enter Tryz.func38, Tryz.ntmps38
  go_wp2_with fail
  go_ret
  exact h.out
theorem roth_any (w : World) : Calls Tryz.prog 55 #[] w (TabIs othL 7 w) := by
  have h := Lib.hid (TabIs.new othL 7 w)
  go_enter Tryz.func55, Tryz.ntmps55
  go_wp2_with fail
  go_ret
  exact h.out
theorem in_at (s : List UInt8) (l : List (List UInt8)) (k : Nat) (hk : l.length = k) (w : World) (b c : Nat) (h : StrsAt w b l) (hl : k ≤ 1000) :
    Calls Tryz.prog 39 #[strV s, .slice (some ⟨b, 0, none⟩) k c] w fun e w' => e = .returned (.bool (inS s l)) ∧ w = w' := by
  subst hk
  exact in_any s l w b c h hl
theorem in_nums (s : List UInt8) : inS s numsL = (CM.numOf s).isSome := by
  unfold inS numsL CM.numOf
  simp only [List.any_cons, List.any_nil, Bool.or_false]
  by_cases h1 : s = CM.lineW
  · subst h1; rfl
  by_cases h2 : s = CM.pcW
  · subst h2; rfl
  by_cases h3 : s = CM.exitW
  · subst h3; rfl
  by_cases h4 : s = CM.waitsW
  · subst h4; rfl
  rw [if_neg h1, if_neg h2, if_neg h3, if_neg h4]
  simp only [beq_eq_false_iff_ne.2 (Ne.symm h1), beq_eq_false_iff_ne.2 (Ne.symm h2), beq_eq_false_iff_ne.2 (Ne.symm h3), beq_eq_false_iff_ne.2 (Ne.symm h4)]
  rfl
theorem in_txts (s : List UInt8) : inS s txtsL = (CM.txtOf s).isSome := by
  unfold inS txtsL CM.txtOf
  simp only [List.any_cons, List.any_nil, Bool.or_false]
  by_cases h1 : s = CM.patternW
  · subst h1; rfl
  by_cases h2 : s = CM.holdW
  · subst h2; rfl
  by_cases h3 : s = CM.restW
  · subst h3; rfl
  by_cases h4 : s = CM.outW
  · subst h4; rfl
  rw [if_neg h1, if_neg h2, if_neg h3, if_neg h4]
  simp only [beq_eq_false_iff_ne.2 (Ne.symm h1), beq_eq_false_iff_ne.2 (Ne.symm h2), beq_eq_false_iff_ne.2 (Ne.symm h3), beq_eq_false_iff_ne.2 (Ne.symm h4)]
  rfl
theorem in_flgs (s : List UInt8) : inS s flgsL = (CM.flagOf s).isSome := by
  unfold inS flgsL CM.flagOf
  simp only [List.any_cons, List.any_nil, Bool.or_false]
  by_cases h1 : s = CM.substW
  · subst h1; rfl
  by_cases h2 : s = CM.silentW
  · subst h2; rfl
  by_cases h3 : s = CM.quitW
  · subst h3; rfl
  by_cases h4 : s = CM.againW
  · subst h4; rfl
  by_cases h5 : s = CM.failedW
  · subst h5; rfl
  rw [if_neg h1, if_neg h2, if_neg h3, if_neg h4, if_neg h5]
  simp only [beq_eq_false_iff_ne.2 (Ne.symm h1), beq_eq_false_iff_ne.2 (Ne.symm h2), beq_eq_false_iff_ne.2 (Ne.symm h3), beq_eq_false_iff_ne.2 (Ne.symm h4), beq_eq_false_iff_ne.2 (Ne.symm h5)]
  rfl
theorem in_phs (s : List UInt8) : inS s phsL = (CM.phOf s).isSome := by
  unfold inS phsL CM.phOf
  simp only [List.any_cons, List.any_nil, Bool.or_false]
  by_cases h1 : s = CM.beginW
  · subst h1; rfl
  by_cases h2 : s = CM.bodyW
  · subst h2; rfl
  by_cases h3 : s = CM.endingW
  · subst h3; rfl
  by_cases h4 : s = CM.haltedW
  · subst h4; rfl
  rw [if_neg h1, if_neg h2, if_neg h3, if_neg h4]
  simp only [beq_eq_false_iff_ne.2 (Ne.symm h1), beq_eq_false_iff_ne.2 (Ne.symm h2), beq_eq_false_iff_ne.2 (Ne.symm h3), beq_eq_false_iff_ne.2 (Ne.symm h4)]
  rfl
theorem beq_comm' (a b : List UInt8) : (a == b) = (b == a) := by rw [Bool.eq_iff_iff]; simp only [beq_iff_eq]; exact eq_comm
theorem in_word (s : List UInt8) : CM.isWord s = (inS s numsL || inS s txtsL || inS s flgsL || inS s phsL || inS s othL) := by
  rw [in_nums, in_txts, in_flgs, in_phs]
  unfold CM.isWord inS othL
  simp only [List.any_cons, List.any_nil, Bool.or_false]
  rw [beq_comm' CM.orW, beq_comm' CM.andW, beq_comm' CM.notW, beq_comm' CM.isW, beq_comm' CM.hasW, beq_comm' CM.changedW, beq_comm' CM.phaseW]
  simp only [Bool.or_assoc]
end Go.Proofs.YtcjcflmnghhbaaaGreat
