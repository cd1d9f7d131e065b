/-
  The reference's parser is what the plain law says; of chapter 27.
  Conditions: as each theorem states them.
-/
import Derived.Test.YtcjcflmnghhbaaaGreatRq9
namespace Go.Proofs.YtcjcflmnghhbaaaGreat
open Go.RowKit
set_option linter.unusedVariables false
set_option linter.unusedSimpArgs false
open CM (Pc Ps)
theorem rpart_step {s : List UInt8} {n : Nat} (hs : s.length ≤ 4096) (IHp : RPart s n) (IHe : REither s n) : RPart s (n + 1) := fun p w g nn hG hgn hsg hok hmu => by
  cases hno : p.pc.is 1 CM.notW with
  | true =>
    by_cases hd : p.deep = 20
    · exact rpart_not_deep hG hsg hno hd
    · exact rpart_not hs IHp hG hgn hsg hok hmu hno hd
  | false =>
    cases hop : p.pc.is 5 [40] with
    | true =>
      by_cases hd : p.deep = 20
      · exact rpart_paren_deep hG hsg hop hd
      · exact rpart_paren hs IHe hG hgn hsg hok hmu hno hop hd
    | false =>
      have hr : CM.run s (n + 1) .part p = CM.atomS s p := by
        simp only [CM.run]
        rw [if_neg (by rw [hno]; simp), if_neg (by rw [hop]; simp)]
      rw [hr]
      by_cases k1 : rk p.pc.kind = 1
      · have hk : p.pc.kind = 1 := (rk_eq (by omega) (by omega)).1 k1
        refine rpart_atom_c hs hG hgn hok k1 rfl rfl ?_ rfl
        have := is_false hno
        rw [rs_of (by omega)]
        simpa using fun e => this ⟨hk, e⟩
      · by_cases k4 : rk p.pc.kind = 4
        · refine rpart_atom_a hs hG hgn hok k4 rfl rfl rfl ?_
          have := rIs_open hsg
          rw [hop] at this
          unfold rIs at this
          rw [k4] at this
          simpa using this
        · refine rpart_atom_b hs hG hgn hok rfl rfl ?_ ?_
          · simp only [beq_eq_false_iff_ne, ne_eq]; omega
          · simp only [beq_eq_false_iff_ne, ne_eq]; omega
/-- the reference's parser -/
theorem rparser_ok {s : List UInt8} (hs : s.length ≤ 4096) : ∀ n, n ≤ 20000 → ∀ m, m ≤ n → RPart s m ∧ RBoth s m ∧ REither s m
  | 0, _, m, hm => by
    obtain rfl : m = 0 := by omega
    exact ⟨fun p w g nn _ _ _ _ h => absurd h (by omega), fun p w g nn _ _ _ _ h => absurd h (by omega), fun p w g nn _ _ _ _ h => absurd h (by omega)⟩
  | n + 1, hn, m, hm => by
    have ih := rparser_ok hs n (by omega)
    by_cases h : m = n + 1
    · subst h
      exact ⟨rpart_step hs (ih n (Nat.le_refl _)).1 (ih n (Nat.le_refl _)).2.2, rboth_step hs (by omega) fun k hk => (ih k hk).1, reither_step hs (by omega) fun k hk => (ih k hk).2.1⟩
    · exact ih m (by omega)
/-- what is read behind a reader, right or wrong -/
def thenR (s : List UInt8) (n : Nat) (R : Except CM.Er Ps) : Except CM.Er (CM.M × Ps) := match R with
  | .error e => .error e
  | .ok p => CM.run s n .either p
theorem reither_R {s : List UInt8} {n : Nat} (hE : REither s n) {g d lo : Nat} {R : Except CM.Er Ps} {W : World} (h : RdSt s g d lo R W) (hg : g < lo) (hmu : ∀ q, R = .ok q → 3 * CM.mu s q + 3 ≤ n) : Calls Tryz.prog 35 #[.pointer (some ⟨g, 0, none⟩)] W (ROut s g d (thenR s n R) W) := by
  cases R with
  | error e =>
    obtain ⟨a, x⟩ := e
    refine (either_bad h).mono ?_
    rintro e w' ⟨hO, hB, v, rfl, hv⟩
    exact ⟨hO, v, rfl, hv, hB⟩
  | ok q =>
    obtain ⟨hG, hok, hsg, hd⟩ := h
    subst hd
    exact hE q W g lo hG hg hsg hok (hmu q rfl)
def psZ : Ps := ⟨⟨0, 0, 0, []⟩, 0, 0⟩
theorem parse_R {s : List UInt8} (hs : s.length ≤ 4096) : CM.parseS s = match thenR s (CM.fuel s) (psZ.next s) with
  | .error e => .error e
  | .ok (h, r) => if r.pc.kind = 0 then .ok h else .error (r.pc.at_, 9) := by
  unfold CM.parseS
  rw [if_neg (by omega)]
  unfold CM.Ps.next psZ
  simp only
  cases CM.nextS s 0 with
  | error e => rfl
  | ok xb => rfl
/-- what the reference's Parse leaves -/
def RPIs (S : Except CM.Er CM.M) (w : World) (e : Ending) (w' : World) : Prop := Below w.heap.size w w' ∧ ∃ (v : List Value) (a : Nat) (x : Int), e = .returned (.tuple #[.agg v.toArray, .int .i64 (a : Int), .int .i64 x]) ∧ SomeN v ∧ match S with
  | .error (a', x') => a = a' ∧ x = x' ∧ x ≠ 0
  | .ok phi => a = 0 ∧ x = 0 ∧ NodeIs w.heap.size w'.heap.size v phi w'
end Go.Proofs.YtcjcflmnghhbaaaGreat
/-
  The reference's Parse of a condition; of chapter 27. (Printed by gen_rqr.py.)
  Conditions: as each theorem states them.
-/
namespace Go.Proofs.YtcjcflmnghhbaaaGreat
open Go.RowKit
set_option linter.unusedVariables false
set_option linter.unusedSimpArgs false
open CM (Pc Ps)
theorem below_set5 {w W : World} {N B : Nat} (h : Below N w W) (hB : N ≤ B) (v0 v1 v2 v3 v4 : Value) : Below N w (((((W.setCell ⟨B, 0, none⟩ v0).setCell ⟨B, 1, none⟩ v1).setCell ⟨B, 2, none⟩ v2).setCell ⟨B, 3, none⟩ v3).setCell ⟨B, 4, none⟩ v4) := Below.setCell (Below.setCell (Below.setCell (Below.setCell (Below.setCell h (p := ⟨B, 0, none⟩) hB v0) (p := ⟨B, 1, none⟩) hB v1) (p := ⟨B, 2, none⟩) hB v2) (p := ⟨B, 3, none⟩) hB v3) (p := ⟨B, 4, none⟩) hB v4
theorem bl_trans' {w a b : World} (h : Below w.heap.size w a) (k : Below a.heap.size a b) : Below w.heap.size w b := bl_trans h k
theorem bl_drewB {w : World} {b : Nat} {t : TypeId} {c : List Value} (h : Blk w b t c) : Blk w.drew b t c := h.below (bl_drew (Below.refl _ _))
set_option maxHeartbeats 8000000 in
set_option maxRecDepth 100000 in
theorem rparse_any (s : List UInt8) (hs : s.length ≤ 4096) (w : World) : Calls Tryz.prog 25 #[strV s] w (RPIs (CM.parseS s) w) := by
  have hBz := Blk.new w 81 zeroN
  have hbz : Below w.heap.size w (w.alloc (.cells zeroN.toArray 81)) := bl_alloc (Below.refl _ _) _
  have hsz1 := size_alloc' w (.cells zeroN.toArray 81)
  obtain ⟨W1, hW1⟩ : ∃ W1, w.alloc (.cells zeroN.toArray 81) = W1 := ⟨_, rfl⟩
  rw [hW1] at hBz hbz hsz1
  have hR0 : Blk (W1.alloc (.cells #[strV s, .int .i64 0, .int .i64 0, .int .i64 0, .string ⟨#[]⟩, .int .i64 0, .slice none 0 0, .int .i64 0, .int .i64 0, .int .i64 0] 104)) W1.heap.size 104 ((rdOf psZ none 0 0).cells s) := Blk.new W1 104 ((rdOf psZ none 0 0).cells s)
  have hb1 : Below W1.heap.size W1 (W1.alloc (.cells #[strV s, .int .i64 0, .int .i64 0, .int .i64 0, .string ⟨#[]⟩, .int .i64 0, .slice none 0 0, .int .i64 0, .int .i64 0, .int .i64 0] 104)) := bl_alloc (Below.refl _ _) _
  have hsz2 := size_alloc' W1 (.cells #[strV s, .int .i64 0, .int .i64 0, .int .i64 0, .string ⟨#[]⟩, .int .i64 0, .slice none 0 0, .int .i64 0, .int .i64 0, .int .i64 0] 104)
  obtain ⟨W2, hW2⟩ : ∃ W2, W1.alloc (.cells #[strV s, .int .i64 0, .int .i64 0, .int .i64 0, .string ⟨#[]⟩, .int .i64 0, .slice none 0 0, .int .i64 0, .int .i64 0, .int .i64 0] 104) = W2 := ⟨_, rfl⟩
  rw [hW2] at hR0 hb1 hsz2
  obtain ⟨g, hg⟩ : ∃ g, W1.heap.size = g := ⟨_, rfl⟩
  have hG0 : Good (g + 1) W2 g s psZ := ⟨none, 0, 0, hg ▸ hR0, fun h => by cases h⟩
  have hok0 : CM.Ok s psZ := ⟨Nat.zero_le _, Nat.zero_le _, by show 0 ≤ 20; omega, by show 0 ≤ 5; omega⟩
  have hgb : w.heap.size < g := by omega
  have hnx := Lib.hid (rnext_any s hs psZ (Nat.zero_le _) (g + 1) W2 g hG0 (by omega))
  have hB2 := hBz.below hb1
  have ho2 : Below w.heap.size w W2 := bl_trans' hbz hb1
  have hgl := hR0.lt
  have q0 : decide ((4096 : Int) < (s.length : Int)) = false := by rw [decide_eq_false_iff_not]; omega
  have hsI : ¬ (4096 : Int) < (s.length : Int) := by omega
  have hE := Lib.hid (rparser_ok hs (CM.fuel s) (by unfold CM.fuel; omega) (CM.fuel s) (Nat.le_refl _)).2.2
  have hP : CM.parseS s = _ := parse_R hs
  replace hP := Lib.hid hP
  replace hW1 := Lib.hid hW1
  replace hW2 := Lib.hid hW2
  replace hB2 := Lib.hid hB2
  replace ho2 := Lib.hid ho2
  replace hok0 := Lib.hid hok0
  unfold zeroN nodeC at hW1
  clear hBz hbz hb1 hR0 hG0
  rw [hg] at hgl hsz1 hsz2
  replace hsz1 := Lib.hid hsz1
  replace hsz2 := Lib.hid hsz2
  replace hgb := Lib.hid hgb
  go_enter Tryz.func25, Tryz.ntmps25
  go_upto_region 1 with fail
  rw [hW1.out]
  go_upto_region 4 with fail
  rw [hW2.out]
  replace hg := Lib.hid hg
  go_upto_region 5 with (go_at_call 34; (with_reducible refine hnx.out.mono ?_); rintro e w3 ⟨rfl, hO3, hN3⟩)
  have hst3 : RdSt s g 0 W2.heap.size (psZ.next s) w3 := next_st hok0.out rfl hN3
  have hE3 := Lib.hid (reither_R hE.out hst3 hgl (fun q hq => by
    have h1 := (CM.next_mu hok0.out.le hok0.out.deep hq).1
    have h2 : CM.mu s q ≤ s.length + 1 := by unfold CM.mu; split <;> omega
    unfold CM.fuel; omega))
  obtain ⟨R2, hR2⟩ : ∃ R2, thenR s (CM.fuel s) (psZ.next s) = R2 := ⟨_, rfl⟩
  rw [hR2] at hE3 hP
  replace hR2 := Lib.hid hR2
  have b3 := hB2.out.only hO3 (by show ¬ w.heap.size = g; have := hgb.out; omega)
  have o3 : Below w.heap.size w w3 := ho2.out.trans (hO3.below (by have := ho2.out.size; omega) (fun k hk => by have := hgb.out; omega))
  have hs3 := hO3.size
  replace hN3 := Lib.hid hN3
  clear hO3 hst3
  replace b3 := Lib.hid b3
  replace o3 := Lib.hid o3
  go_upto_region 6 with (go_at_call 35; (with_reducible refine hE3.out.mono ?_); rintro e w5 ⟨hO5, v, rfl, ⟨xw, xa, xn, xc, xs, xm, xb, xbn, xbc, rfl⟩, hD5⟩; replace hO5 := Lib.hid hO5; replace hD5 := Lib.hid hD5; unfold nodeC)
  have b5 := b3.out.only hO5.out (by show ¬ w.heap.size = g; have := hgb.out; omega)
  have o5 : Below w.heap.size w w5 := o3.out.trans (hO5.out.below (by have := o3.out.size; omega) (fun k hk => by have := hgb.out; omega))
  have hn := Blk.new w5 81 [strV xw, .slice xa xn xc, strV xs, .int .i64 xm, .slice xb xbn xbc]
  have hb5 : Below w5.heap.size w5 (w5.alloc (.cells #[strV xw, .slice xa xn xc, strV xs, .int .i64 xm, .slice xb xbn xbc] 81)) := bl_alloc (Below.refl _ _) _
  rw [show ([strV xw, .slice xa xn xc, strV xs, .int .i64 xm, .slice xb xbn xbc] : List Value).toArray = #[strV xw, .slice xa xn xc, strV xs, .int .i64 xm, .slice xb xbn xbc] from rfl] at hn
  obtain ⟨W6, hW6⟩ : ∃ W6, w5.alloc (.cells #[strV xw, .slice xa xn xc, strV xs, .int .i64 xm, .slice xb xbn xbc] 81) = W6 := ⟨_, rfl⟩
  rw [hW6] at hn hb5 ⊢
  replace hW6 := Lib.hid hW6
  have hs5 := hO5.out.size
  have hnb0 : w.heap.size < w5.heap.size := b5.lt
  obtain ⟨nb, hnb⟩ : ∃ nb, w5.heap.size = nb := ⟨_, rfl⟩
  rw [hnb] at hn
  have hkeep := Lib.hid (fun (lo : Nat) (cs : List Value) (phi : CM.M) (h : NodeIs lo w5.heap.size cs phi w5) => h.keep (KeepI.below hb5 (Nat.le_refl _)))
  have b6 := b5.below hb5
  have o6 : Below w.heap.size w W6 := bl_trans' o5 hb5
  clear hE3 hE hnx b3 o3 b5 o5
  cases R2 with
  | error e =>
    obtain ⟨a, x⟩ := e
    have hBad : Bad W6 g s 0 a x := Bad.below hD5.out hb5
    have hP := hP.out
    simp only at hP
    have hBad2 := hBad
    obtain ⟨rd, hBd, hdd, hbb, hee, hx⟩ := hBad2
    have c2 : W6.cell? ⟨g, 2, none⟩ = some (.int .i64 (rd.kind : Int)) := hBd.cell 2
    have c3 : W6.cell? ⟨g, 3, none⟩ = some (.int .i64 (rd.pat : Int)) := hBd.cell 3
    have gl6 := hBd.lt
    have hfl := Lib.hid (rfail_no hBd (by rw [hee]; exact hx) (rd.pat : Int) 9)
    obtain ⟨qk, hqk⟩ : ∃ b, ((rd.kind : Int) != 0) = b := ⟨_, rfl⟩
    replace hBad := Lib.hid hBad
    replace b6 := Lib.hid b6
    replace o6 := Lib.hid o6
    replace hP := Lib.hid hP
    clear hBd hdd hbb hee hn
    cases qk
    all_goals go_upto_region 8 with (go_at_call 36; (with_reducible refine hfl.out.mono ?_); rintro e w8 ⟨rfl, rfl⟩)
    all_goals (
      clear c2 c3 gl6 hfl hqk hx
      have hBad := hBad.out
      have b8 := b6.out
      have o8 := o6.out
      have hP := hP.out
      generalize W6 = W8 at *
      obtain ⟨rd, hB8, hd8, hb8, he8, hx8⟩ := hBad
      rw [← he8] at hx8 hP
      obtain ⟨rat, rk_, rpat, rps, rpn, rpa, rpm, rpc, rdeep, rbad, re_⟩ := rd
      simp only at hb8 he8 hd8 hx8
      subst hb8
      have c8 : W8.cell? ⟨g, 8, none⟩ = some (.int .i64 (a : Int)) := hB8.cell 8
      have c9 : W8.cell? ⟨g, 9, none⟩ = some (.int .i64 re_) := hB8.cell 9
      have gl := hB8.lt
      have qe : (re_ != 0) = true := by simpa using hx8
      have x0 : W8.cell? ⟨w.heap.size, 0, none⟩ = some (.string ⟨#[]⟩) := b8.cell 0
      have x1 : W8.cell? ⟨w.heap.size, 1, none⟩ = some (.slice none 0 0) := b8.cell 1
      have x2 : W8.cell? ⟨w.heap.size, 2, none⟩ = some (.string ⟨#[]⟩) := b8.cell 2
      have x3 : W8.cell? ⟨w.heap.size, 3, none⟩ = some (.int .i64 0) := b8.cell 3
      have x4 : W8.cell? ⟨w.heap.size, 4, none⟩ = some (.slice none 0 0) := b8.cell 4
      have y0 := b8.free 0
      have y1 := b8.free 1
      have y2 := b8.free 2
      have y3 := b8.free 3
      have y4 := b8.free 4
      have bl := b8.lt
      have hbg : w.heap.size < g := hgb.out
      have hfin := Lib.hid (fun W9 (e : (((((W8.setCell ⟨w.heap.size, 0, none⟩ (.string ⟨#[]⟩)).setCell ⟨w.heap.size, 1, none⟩ (.slice none 0 0)).setCell ⟨w.heap.size, 2, none⟩ (.string ⟨#[]⟩)).setCell ⟨w.heap.size, 3, none⟩ (.int .i64 0)).setCell ⟨w.heap.size, 4, none⟩ (.slice none 0 0)).drew = W9) => (by subst e; exact ⟨bl_drewB (((((Blk.set b8 0 _).set 1 _).set 2 _).set 3 _).set 4 _), Below.drew (below_set5 o8 (Nat.le_refl _) _ _ _ _ _)⟩ : Blk W9 w.heap.size 81 [.string ⟨#[]⟩, .slice none 0 0, .string ⟨#[]⟩, .int .i64 0, .slice none 0 0] ∧ Below w.heap.size w W9))
      have hPe := Lib.hid hP
      replace he8 := Lib.hid he8
      have hxe := Lib.hid hx8
      clear hB8 b8 o8 hP hx8
      replace hd8 := Lib.hid hd8
      go_upto_region 9 with fail
      go_region
      all_goals (
        go_wp2_with fail
        obtain ⟨W9, hW9⟩ : ∃ W9, (((((W8.setCell ⟨w.heap.size, 0, none⟩ (.string ⟨#[]⟩)).setCell ⟨w.heap.size, 1, none⟩ (.slice none 0 0)).setCell ⟨w.heap.size, 2, none⟩ (.string ⟨#[]⟩)).setCell ⟨w.heap.size, 3, none⟩ (.int .i64 0)).setCell ⟨w.heap.size, 4, none⟩ (.slice none 0 0)).drew = W9 := ⟨_, rfl⟩
        obtain ⟨z1, z2⟩ := hfin.out W9 hW9
        rw [hW9]
        clear hW9 hfin
        have e0 := z1.cell 0
        have e1 := z1.cell 1
        have e2 := z1.cell 2
        have e3 := z1.cell 3
        have e4 := z1.cell 4
        simp only [List.getElem?_cons_zero, List.getElem?_cons_succ] at e0 e1 e2 e3 e4
        clear z1
        refine bodyPost_ret (v := .tuple #[.agg #[.string ⟨#[]⟩, .slice none 0 0, .string ⟨#[]⟩, .int .i64 0, .slice none 0 0], .int .i64 (a : Int), .int .i64 re_]) ?_ rfl ?_
        · simp [results, Tryz.results25, go_sem, e0, e1, e2, e3, e4]
        · exact ⟨z2, zeroN, a, re_, rfl, zeroN_some, by rw [hPe.out]; exact ⟨rfl, rfl, hxe.out⟩⟩))
  | ok hr =>
    obtain ⟨phi, r⟩ := hr
    obtain ⟨hN5, hG5, hsg5⟩ := hD5.out
    have hN6 := hkeep.out _ _ _ hN5
    have hG6 := hG5.below hb5
    have hP := hP.out
    simp only at hP
    have hG62 := hG6
    obtain ⟨pa, pm, pc, hBd, _⟩ := hG62
    have c2 : W6.cell? ⟨g, 2, none⟩ = some (.int .i64 (rk r.pc.kind : Int)) := hBd.cell 2
    have c3 : W6.cell? ⟨g, 3, none⟩ = some (.int .i64 (r.pc.at_ : Int)) := hBd.cell 3
    have c9 : W6.cell? ⟨g, 9, none⟩ = some (.int .i64 0) := hBd.cell 9
    have gl6 := hBd.lt
    by_cases hk : r.pc.kind = 0
    · rw [if_pos hk] at hP
      have qk : ((rk r.pc.kind : Int) != 0) = false := by rw [hk]; rfl
      have n0 : W6.cell? ⟨nb, 0, none⟩ = some (strV xw) := hn.cell 0
      have n1 : W6.cell? ⟨nb, 1, none⟩ = some (.slice xa xn xc) := hn.cell 1
      have n2 : W6.cell? ⟨nb, 2, none⟩ = some (strV xs) := hn.cell 2
      have n3 : W6.cell? ⟨nb, 3, none⟩ = some (.int .i64 xm) := hn.cell 3
      have n4 : W6.cell? ⟨nb, 4, none⟩ = some (.slice xb xbn xbc) := hn.cell 4
      have x0 : W6.cell? ⟨w.heap.size, 0, none⟩ = some (.string ⟨#[]⟩) := b6.cell 0
      have x1 : W6.cell? ⟨w.heap.size, 1, none⟩ = some (.slice none 0 0) := b6.cell 1
      have x2 : W6.cell? ⟨w.heap.size, 2, none⟩ = some (.string ⟨#[]⟩) := b6.cell 2
      have x3 : W6.cell? ⟨w.heap.size, 3, none⟩ = some (.int .i64 0) := b6.cell 3
      have x4 : W6.cell? ⟨w.heap.size, 4, none⟩ = some (.slice none 0 0) := b6.cell 4
      have y0 := b6.free 0
      have y1 := b6.free 1
      have y2 := b6.free 2
      have y3 := b6.free 3
      have y4 := b6.free 4
      have bl6 := b6.lt
      have nl6 := hn.lt
      have hw35 : w.heap.size < w3.heap.size := by have := hgb.out; omega
      have hfin := Lib.hid (fun (v0 v1 v2 v3 v4 : Value) => (⟨((((Blk.set b6 0 v0).set 1 v1).set 2 v2).set 3 v3).set 4 v4, below_set5 o6 (Nat.le_refl _) v0 v1 v2 v3 v4, (hN6.keep (KeepI.only (K := fun k => k = w.heap.size) (((((Only.refl (fun k => k = w.heap.size) W6).setCell (p := ⟨w.heap.size, 0, none⟩) rfl v0).setCell (p := ⟨w.heap.size, 1, none⟩) rfl v1).setCell (p := ⟨w.heap.size, 2, none⟩) rfl v2).setCell (p := ⟨w.heap.size, 3, none⟩) rfl v3 |>.setCell (p := ⟨w.heap.size, 4, none⟩) rfl v4) hN6.1 (fun k h1 h2 e => by omega)))⟩ : Blk (((((W6.setCell ⟨w.heap.size, 0, none⟩ v0).setCell ⟨w.heap.size, 1, none⟩ v1).setCell ⟨w.heap.size, 2, none⟩ v2).setCell ⟨w.heap.size, 3, none⟩ v3).setCell ⟨w.heap.size, 4, none⟩ v4) w.heap.size 81 [v0, v1, v2, v3, v4] ∧ Below w.heap.size w (((((W6.setCell ⟨w.heap.size, 0, none⟩ v0).setCell ⟨w.heap.size, 1, none⟩ v1).setCell ⟨w.heap.size, 2, none⟩ v2).setCell ⟨w.heap.size, 3, none⟩ v3).setCell ⟨w.heap.size, 4, none⟩ v4) ∧ NodeIs w3.heap.size w5.heap.size (nodeC xw xa xn xc xs xm xb xbn xbc) phi (((((W6.setCell ⟨w.heap.size, 0, none⟩ v0).setCell ⟨w.heap.size, 1, none⟩ v1).setCell ⟨w.heap.size, 2, none⟩ v2).setCell ⟨w.heap.size, 3, none⟩ v3).setCell ⟨w.heap.size, 4, none⟩ v4)))
      replace hP := Lib.hid hP
      clear hN5 hG5 hN6 hG6 hBd hn b6 o6 hkeep hsg5 hD5 c3 hb5
      go_wp2_with fail
      trace_state
      obtain ⟨z1, z2, z3⟩ := hfin.out (strV xw) (.slice xa xn xc) (strV xs) (.int .i64 xm) (.slice xb xbn xbc)
      have e0 := z1.cell 0
      have e1 := z1.cell 1
      have e2 := z1.cell 2
      have e3 := z1.cell 3
      have e4 := z1.cell 4
      simp only [List.getElem?_cons_zero, List.getElem?_cons_succ] at e0 e1 e2 e3 e4
      clear z1
      refine bodyPost_ret (v := .tuple #[.agg #[strV xw, .slice xa xn xc, strV xs, .int .i64 xm, .slice xb xbn xbc], .int .i64 0, .int .i64 0]) ?_ rfl ?_
      · simp [results, Tryz.results25, go_sem, e0, e1, e2, e3, e4]
      · exact ⟨z2, nodeC xw xa xn xc xs xm xb xbn xbc, 0, 0, rfl, ⟨_, _, _, _, _, _, _, _, _, rfl⟩, by rw [hP.out]; exact ⟨rfl, rfl, z3.wide (Nat.le_of_lt hw35) z3.1 (Nat.le_refl _)⟩⟩
    · rw [if_neg hk] at hP
      have qk : ((rk r.pc.kind : Int) != 0) = true := by
        have : rk r.pc.kind ≠ 0 := by unfold rk; split <;> omega
        simp only [bne_iff_ne, ne_eq]; omega
      have hfl := Lib.hid (rfail_ok hBd rfl r.pc.at_ 9)
      replace b6 := Lib.hid b6
      replace o6 := Lib.hid o6
      replace hP := Lib.hid hP
      clear hN5 hG5 hN6 hG6 hBd hn hkeep hsg5 hD5 hb5 c9
      go_upto_region 8 with (go_at_call 36; (with_reducible refine hfl.out.mono ?_); rintro e W8 ⟨rfl, hB8, hO8⟩; replace hB8 := Lib.hid hB8; replace hO8 := Lib.hid hO8)
      have hBad : Bad W8 g s r.deep r.pc.at_ 9 := ⟨_, hB8.out, rfl, rfl, rfl, by omega⟩
      have b8 := b6.out.only hO8.out (by show ¬ w.heap.size = g; have := hgb.out; omega)
      have o8 : Below w.heap.size w W8 := o6.out.trans (hO8.out.below (by have := o6.out.size; omega) (fun k hk => by have := hgb.out; omega))
      have hP := hP.out
      obtain ⟨a, ha⟩ : ∃ a, r.pc.at_ = a := ⟨_, rfl⟩
      rw [ha] at hBad hP
      replace ha := Lib.hid ha
      clear c2 c3 gl6 hfl qk hB8 hO8
      obtain ⟨rd, hB8, hd8, hb8, he8, hx8⟩ := hBad
      rw [← he8] at hx8 hP
      obtain ⟨rat, rk_, rpat, rps, rpn, rpa, rpm, rpc, rdeep, rbad, re_⟩ := rd
      simp only at hb8 he8 hd8 hx8
      subst hb8
      have c8 : W8.cell? ⟨g, 8, none⟩ = some (.int .i64 (a : Int)) := hB8.cell 8
      have c9 : W8.cell? ⟨g, 9, none⟩ = some (.int .i64 re_) := hB8.cell 9
      have gl := hB8.lt
      have qe : (re_ != 0) = true := by simpa using hx8
      have x0 : W8.cell? ⟨w.heap.size, 0, none⟩ = some (.string ⟨#[]⟩) := b8.cell 0
      have x1 : W8.cell? ⟨w.heap.size, 1, none⟩ = some (.slice none 0 0) := b8.cell 1
      have x2 : W8.cell? ⟨w.heap.size, 2, none⟩ = some (.string ⟨#[]⟩) := b8.cell 2
      have x3 : W8.cell? ⟨w.heap.size, 3, none⟩ = some (.int .i64 0) := b8.cell 3
      have x4 : W8.cell? ⟨w.heap.size, 4, none⟩ = some (.slice none 0 0) := b8.cell 4
      have y0 := b8.free 0
      have y1 := b8.free 1
      have y2 := b8.free 2
      have y3 := b8.free 3
      have y4 := b8.free 4
      have bl := b8.lt
      have hbg : w.heap.size < g := hgb.out
      have hfin := Lib.hid (fun W9 (e : (((((W8.setCell ⟨w.heap.size, 0, none⟩ (.string ⟨#[]⟩)).setCell ⟨w.heap.size, 1, none⟩ (.slice none 0 0)).setCell ⟨w.heap.size, 2, none⟩ (.string ⟨#[]⟩)).setCell ⟨w.heap.size, 3, none⟩ (.int .i64 0)).setCell ⟨w.heap.size, 4, none⟩ (.slice none 0 0)).drew = W9) => (by subst e; exact ⟨bl_drewB (((((Blk.set b8 0 _).set 1 _).set 2 _).set 3 _).set 4 _), Below.drew (below_set5 o8 (Nat.le_refl _) _ _ _ _ _)⟩ : Blk W9 w.heap.size 81 [.string ⟨#[]⟩, .slice none 0 0, .string ⟨#[]⟩, .int .i64 0, .slice none 0 0] ∧ Below w.heap.size w W9))
      have hPe := Lib.hid hP
      replace he8 := Lib.hid he8
      have hxe := Lib.hid hx8
      clear hB8 b8 o8 hP hx8
      replace hd8 := Lib.hid hd8
      go_upto_region 9 with fail
      go_region
      all_goals (
        go_wp2_with fail
        obtain ⟨W9, hW9⟩ : ∃ W9, (((((W8.setCell ⟨w.heap.size, 0, none⟩ (.string ⟨#[]⟩)).setCell ⟨w.heap.size, 1, none⟩ (.slice none 0 0)).setCell ⟨w.heap.size, 2, none⟩ (.string ⟨#[]⟩)).setCell ⟨w.heap.size, 3, none⟩ (.int .i64 0)).setCell ⟨w.heap.size, 4, none⟩ (.slice none 0 0)).drew = W9 := ⟨_, rfl⟩
        obtain ⟨z1, z2⟩ := hfin.out W9 hW9
        rw [hW9]
        clear hW9 hfin
        have e0 := z1.cell 0
        have e1 := z1.cell 1
        have e2 := z1.cell 2
        have e3 := z1.cell 3
        have e4 := z1.cell 4
        simp only [List.getElem?_cons_zero, List.getElem?_cons_succ] at e0 e1 e2 e3 e4
        clear z1
        refine bodyPost_ret (v := .tuple #[.agg #[.string ⟨#[]⟩, .slice none 0 0, .string ⟨#[]⟩, .int .i64 0, .slice none 0 0], .int .i64 (a : Int), .int .i64 re_]) ?_ rfl ?_
        · simp [results, Tryz.results25, go_sem, e0, e1, e2, e3, e4]
        · exact ⟨z2, zeroN, a, re_, rfl, zeroN_some, by rw [hPe.out]; exact ⟨rfl, rfl, hxe.out⟩⟩)
end Go.Proofs.YtcjcflmnghhbaaaGreat
