/-
  The reference's blank and quote; of chapter 32.
  Conditions: as each theorem states them.
-/
import Derived.Test.YtaginadnaajleaaDoorUnqR
import Derived.Test.YtaginadnaajleaaDoorParse0
import Derived.Test.YtaginadnaajleaaDoorBookT
import Derived.Test.YtaginadnaajleaaDoorFla
import Derived.Deep.LoopGhost
namespace Go.Proofs.YtaginadnaajleaaDoor
open Go.RowKit
set_option linter.unusedVariables false
set_option linter.unusedSimpArgs false
open BM (Cs)
theorem unqS_at : ∀ (n : Nat) (out : List UInt8) (a : Nat) (r : List UInt8), r.length ≤ n → (unqS out a r).2.1 ≤ (a : Int) + r.length
  | n, out, a, [], _ => by rw [unqS_nil]; simp
  | 0, out, a, c :: r, h => by simp at h
  | n + 1, out, a, c :: r, h => by
    simp only [List.length_cons] at h
    by_cases h1 : c = 34
    · subst h1; rw [unqS_end]; simp; omega
    · by_cases h2 : c = 92
      · subst h2
        cases he : escS r with
        | error e => rw [unqS_err out a r e he]; simp; omega
        | ok xn =>
          obtain ⟨x, m⟩ := xn
          rw [unqS_esc out a r x m he]
          have := unqS_at n (out ++ [x]) (a + 1 + m) (r.drop m) (by rw [List.length_drop]; omega)
          have hl := (escS_len he).2
          rw [List.length_drop] at this
          simp only [List.length_cons] at this ⊢
          omega
      · rw [unqS_plain out a c r h1 h2]
        have := unqS_at n (out ++ [c]) (a + 1) r (by omega)
        simp only [List.length_cons] at this ⊢
        omega
theorem unquote_at (s : List UInt8) : (unquoteS s 0).2.1 ≤ s.length := by
  unfold unquoteS
  split
  · simp
  · cases h : s.drop (0 : Int).toNat with
    | nil => simp
    | cons c r =>
      simp only
      split
      · simp
      · have := unqS_at r.length [] ((0 : Int).toNat + 1) r (Nat.le_refl _)
        have hl : (s.drop (0 : Int).toNat).length = r.length + 1 := by rw [h]; simp
        rw [List.length_drop] at hl
        simp only [Int.toNat_zero] at this hl ⊢
        omega
set_option maxHeartbeats 2000000 in
theorem rq_any (s : List UInt8) (hl : s.length ≤ 100000) (w : World) : Calls Tryd.prog 26 #[strV s] w (QuIs (BM.quoteAll s) w) := by
  have hu := Lib.hid (SH.runquote_any s 0 (by omega) hl w)
  have hat := unquote_at s
  have hq : BM.quoteAll s = if (unquoteS s 0).2.2 = 0 ∧ (unquoteS s 0).2.1 < s.length then ((unquoteS s 0).1, 9) else ((unquoteS s 0).1, (unquoteS s 0).2.2) := rfl
  generalize unquoteS s 0 = R at *
  obtain ⟨l, p, c⟩ := R
  simp only at hq hat
  unfold SH.UnqIs at hu
  generalize BM.quoteAll s = Q at *
  by_cases h0 : c = 0
  · have q0 : (c == 0) = true := by simpa using h0
    by_cases h1 : p < s.length
    · rw [if_pos ⟨h0, h1⟩] at hq
      replace hq := Lib.hid hq
      have q1 : (p != (s.length : Int)) = true := by simp; omega
      replace h0 := Lib.hid h0
      replace h1 := Lib.hid h1
      clear hat
      go_enter Tryd.func26, Tryd.ntmps26
      go_wp2_with (go_at_call 52; refine hu.out.mono ?_; rintro e w2 ⟨v, rfl, ho, hb⟩)
      all_goals go_ret2
      all_goals exact ⟨.slice none 0 0, [], (by rw [hq.out]; rfl), (fun h => by rw [hq.out] at h; cases h), World.ownsRow_nil _ _ _ _, hb⟩
    · rw [if_neg (fun h => h1 h.2)] at hq
      replace hq := Lib.hid hq
      have q1 : (p != (s.length : Int)) = false := by simp; omega
      replace h0 := Lib.hid h0
      replace h1 := Lib.hid h1
      clear hat
      go_enter Tryd.func26, Tryd.ntmps26
      go_wp2_with (go_at_call 52; refine hu.out.mono ?_; rintro e w2 ⟨v, rfl, ho, hb⟩)
      all_goals go_ret2
      all_goals exact ⟨v, l, by rw [hq.out]; rfl, fun _ => by rw [hq.out], ho, hb⟩
  · rw [if_neg (fun h => h0 h.1)] at hq
    replace hq := Lib.hid hq
    have q0 : (c == 0) = false := by simpa using h0
    replace h0 := Lib.hid h0
    clear hat
    go_enter Tryd.func26, Tryd.ntmps26
    go_wp2_with (go_at_call 52; refine hu.out.mono ?_; rintro e w2 ⟨v, rfl, ho, hb⟩)
    all_goals go_ret2
    all_goals exact ⟨v, l, by rw [hq.out]; rfl, fun _ => by rw [hq.out], ho, hb⟩
/-- the place of the first blank -/
def blankI (s : List UInt8) : Int := if (s.takeWhile OM.nb).length < s.length then ((s.takeWhile OM.nb).length : Int) else -1
theorem blank_at {s : List UInt8} {k : Nat} (hk : k < s.length) (h : ∀ j (hj : j < s.length), j < k → s[j] ≠ 32) (e : s[k] = 32) : blankI s = (k : Int) := by
  have ht : s.takeWhile OM.nb = s.take k := takeWhile_eq s k (by omega) (fun i hi hi' => by simpa [OM.nb] using h i hi' hi) (fun _ => by simp [OM.nb, e])
  unfold blankI
  rw [ht, List.length_take, Nat.min_eq_left (by omega), if_pos hk]
theorem blank_no {s : List UInt8} (h : ∀ j (hj : j < s.length), s[j] ≠ 32) : blankI s = -1 := by
  have ht : s.takeWhile OM.nb = s.take s.length := takeWhile_eq s s.length (Nat.le_refl _) (fun i hi hi' => by simpa [OM.nb] using h i hi') (fun h => absurd h (by omega))
  unfold blankI
  rw [ht, List.take_length, if_neg (by omega)]
set_option maxHeartbeats 2000000 in
theorem blank_any (s : List UInt8) (hl : s.length ≤ 100000) (w : World) : Calls Tryd.prog 25 #[strV s] w fun e w' => e = .returned (.int .i64 (blankI s)) ∧ w = w' := by
  obtain ⟨R, hR⟩ : ∃ R, blankI s = R := ⟨_, rfl⟩
  rw [hR]
  replace hR := Lib.hid hR
  go_enter Tryd.func25, Tryd.ntmps25
  go_wp2_with fail
  go_loopg [3] s.length (fun gh i wr => ∃ k : Nat, gh = s.length - k ∧ i = .int .i64 (k : Int) ∧ k ≤ s.length ∧ Hid (∀ j (hj : j < s.length), j < k → s[j] ≠ 32) ∧ w = wr)
  case atStart => exact ⟨0, rfl, rfl, by omega, Lib.hid (fun j hj h => by omega), rfl⟩
  case round =>
    obtain ⟨k, rfl, rfl, hk, hs, rfl⟩ := hrel
    by_cases hlt : k < s.length
    · have hby := SH.ba_at hlt (by rw [SH.ba_size]; exact hlt)
      by_cases c32 : s[k] = 32
      · have q4 : (((⟨s.toArray⟩ : ByteArray)[k]'(by rw [SH.ba_size]; exact hlt)).toNat : Int) = 32 := by rw [hby, c32]; rfl
        have hR1 := Lib.hid ((hR.out).symm.trans (blank_at hlt hs.out c32))
        clear hby c32
        go_wp2_with fail
        go_ret
        exact ⟨(by rw [hR1.out]; rfl), rfl⟩
      · have q4 : ((((⟨s.toArray⟩ : ByteArray)[k]'(by rw [SH.ba_size]; exact hlt)).toNat : Int) == 32) = false := by
          rw [hby]; simp only [beq_eq_false_iff_ne, ne_eq]; intro e; exact c32 (UInt8.toNat_inj.1 (by rw [show (32 : UInt8).toNat = 32 from rfl]; omega))
        have hs2 := Lib.hid (show ∀ j (hj : j < s.length), j < k + 1 → s[j] ≠ 32 from fun j hj h => by rcases Nat.lt_succ_iff_lt_or_eq.1 h with h | rfl; exact hs.out j hj h; exact c32)
        clear hby c32
        go_wp2_with fail
        all_goals go_roundg (s.length - (k + 1))
        case measure => omega
        case rel => exact ⟨k + 1, rfl, by go_num, by omega, hs2, rfl⟩
    · obtain rfl : k = s.length := by omega
      have hR1 := Lib.hid ((hR.out).symm.trans (blank_no (fun j hj => hs.out j hj hj)))
      go_wp2_with fail
      go_ret
      exact ⟨(by rw [hR1.out]; rfl), rfl⟩
end Go.Proofs.YtaginadnaajleaaDoor
/-
  The reference's Split; of chapter 02.
  Conditions: as each theorem states them.
-/
namespace Go.Proofs.YtaginadnaajleaaDoor
open Go.RowKit
set_option linter.unusedVariables false
set_option linter.unusedSimpArgs false
open BM (Cs)
theorem lines_last : ∀ {M : List UInt8}, 10 ∉ M → M ≠ [] → BM.linesS M = [M]
  | [], _, h => absurd rfl h
  | [c], h, _ => by simp only [List.mem_cons, List.not_mem_nil, or_false] at h; have h' : ¬ c = 10 := fun e => h e.symm; simp [BM.linesS, h']
  | c :: d :: M, h, _ => by
    simp only [List.mem_cons, not_or] at h
    rw [BM.linesS, if_neg (fun e => h.1 e.symm), lines_last (M := d :: M) (by simp only [List.mem_cons, not_or]; exact h.2) (by simp)]
theorem own_one {w : World} {base e s n : Nat} {v : Value} {xs : List Value} (h : w.ownsRow base e s v n xs) : v.oneCell' = true := by
  rcases h.2 with ⟨rfl, _⟩ | ⟨gq, cap, cur, rfl, _⟩ <;> rfl
/-- rows of bytes that lie elsewhere than a row that grows -/
def Apart (vs : List (Value × Bool)) (v : Value) : Prop := ∀ p ∈ vs, p.1.ownBlock = none ∨ p.1.ownBlock ≠ v.ownBlock
/-- the loop's relation -/
def RsR (xs : List UInt8) (base : Nat) (w : World) (gh : Nat) (out cur i : Value) (wr : World) : Prop := ∃ (k : Nat) (done : List (List UInt8)) (L : List UInt8) (vs : List (Value × Bool)), gh = xs.length - k ∧ i = .int .i64 (k : Int) ∧ k ≤ xs.length ∧ vs.length = done.length ∧
  wr.ownsRow base 43 2 out done.length (vs.flatMap fun p => [p.1, .bool p.2]) ∧ (∀ j (h : j < done.length) (h' : j < vs.length), wr.ownsRow base 5 1 vs[j].1 done[j].length (Lib.byteCells done[j])) ∧ Below w.heap.size w wr ∧ base ≤ wr.heap.size ∧ L.length ≤ k ∧ done.length ≤ k ∧
  (k < xs.length → BM.linesS xs = done ++ BM.linesS (L ++ xs.drop k) ∧ 10 ∉ L ∧ wr.ownsRow base 5 1 cur L.length (Lib.byteCells L) ∧ Apart vs cur) ∧ (k = xs.length → done = BM.linesS xs)
set_option maxHeartbeats 4000000 in
set_option maxRecDepth 100000 in
theorem rsplit_any (v0 : Value) (xs : List UInt8) (hl : xs.length ≤ 100000) (w : World) (h : BysAt w v0 xs) :
    Calls Tryd.prog 11 #[v0] w fun e w' => ∃ v, e = .returned v ∧ LineRow w' w.heap.size v (BM.linesS xs) ∧ Below w.heap.size w w' := by
  obtain ⟨i0, hi, hz0, hz1, hz2⟩ := info_parts infoLine
  obtain ⟨i1, hj, hy0, hy1, hy2⟩ := info_parts infoByteB
  obtain ⟨a, c, rfl, _, h⟩ := h
  replace h := Lib.hid h
  obtain ⟨n, hn⟩ : ∃ n, xs.length = n := ⟨_, rfl⟩
  rw [hn] at hl ⊢
  replace hn := Lib.hid hn
  go_enter Tryd.func11, Tryd.ntmps11
  go_wp2_with fail
  go_loopg [3, 4, 5] n (fun gh v3 v4 v5 wr => RsR xs w.heap.size w gh v3 v4 v5 wr)
  case atStart => exact ⟨0, [], [], [], by rw [hn.out]; rfl, rfl, Nat.zero_le _, rfl, World.ownsRow_nil _ _ _ _, fun j h => by simp at h, Below.refl _ _, Nat.le_refl _, Nat.le_refl _, Nat.le_refl _, fun _ => ⟨by simp, by simp, World.ownsRow_nil _ _ _ _, fun p hp => by simp at hp⟩, fun e => by rw [List.eq_nil_of_length_eq_zero e.symm]; rfl⟩
  case round =>
    obtain ⟨k, done, L, vs, hgh, rfl, hk, hvl, hown, hrows, hB, hbs, hLk, hdk, hin, hfin⟩ := hrel
    rw [hn.out] at hgh hk
    by_cases hlt : k < n
    · obtain ⟨hls, hL10, hcur, hap⟩ := hin (by rw [hn.out]; exact hlt)
      clear hin hfin
      obtain ⟨ca, cc, rfl⟩ := own_slice hcur
      obtain ⟨oa, oc, rfl⟩ := own_slice hown
      have k1 : k < xs.length := by rw [hn.out]; exact hlt
      obtain ⟨p, o, rfl, hp, hr⟩ := h.out (by omega)
      have e1 : wr.cell? ⟨p, o + k, none⟩ = some (.int .u8 (xs[k].toNat : Int)) := (hB.cell (p := ⟨p, o + k, none⟩) hp).trans (hr k k1)
      have hib : (k : Int) < (n : Int) := by omega
      have hdr : xs.drop k = xs[k] :: xs.drop (k + 1) := List.drop_eq_getElem_cons k1
      rw [hdr] at hls
      clear hr hdr
      obtain ⟨b, hb⟩ : ∃ b, xs[k] = b := ⟨_, rfl⟩
      rw [hb] at e1 hls
      clear hb
      have hpw : p < wr.heap.size := Nat.lt_of_lt_of_le hp hB.size
      by_cases h10 : b = 10
      · have q1 : ((b.toNat : Int) == 10) = true := by rw [h10]; rfl
        subst h10
        rw [BM.linesS_line hL10] at hls
        have hB0 := Lib.hid hB
        have hv0 := Lib.hid hvl
        have hrw := Lib.hid hrows
        have hcu := Lib.hid hcur
        have hls0 := Lib.hid hls
        have hown0 := Lib.hid hown
        clear hap hB hvl hrows hcur hls hL10 hown
        go_wp2_with (at_builtin; refine wpList_append_own _ rfl (.tmp 17) (.tmp 20) 40 rfl w.heap.size 43 i0 (.agg #[.slice none 0 0, .bool false]) 2 32 Tryd.underlying40 hi hz0 hz1 hz2 rfl (by decide) _ _ _ rfl (hown0.out.alloc _) ⟨wr.heap.size, 0, none⟩ 1 1 [.slice ca L.length cc, .bool true] rfl rfl (cells_new _ _ rfl _ [.slice ca L.length cc, .bool true]) (by intro u hu; simp only [List.mem_cons, List.not_mem_nil, or_false] at hu; rcases hu with rfl | rfl <;> rfl) (by unfold maxLen; omega) (by omega) (by simp; omega) ?_; intro v1 w1 hown1 hgrow1 hnil1; have hB1 : Below w.heap.size w w1 := (hB0.out.alloc (by omega) _).grown hgrow1 (by simp; omega) (fun j hj => (hown0.out.lt j hj).1); replace hown1 := Lib.hid hown1; replace hgrow1 := Lib.hid hgrow1; replace hB1 := Lib.hid hB1)
        all_goals go_roundg (n - (k + 1))
        case measure => omega
        case rel =>
          obtain ⟨vs2, g1, g2, g3⟩ := LineRow.snoc (v' := v1) (nl := true) hv0.out hown0.out hrw.out hcu.out hgrow1.out hown1.out
          have hd : 10 ∉ ([] : List UInt8) := by simp
          exact ⟨k + 1, done ++ [L], [], vs2, by rw [hn.out], by go_num, by rw [hn.out]; omega, g1, by simpa using g2, g3, hB1.out, hB1.out.size, by simp, by simp; omega, fun _ => ⟨by rw [hls0.out]; simp, hd, World.ownsRow_nil _ _ _ _, fun p _ => by cases hp : p.1.ownBlock <;> simp [Value.ownBlock]⟩, fun e => by rw [hls0.out, e, List.drop_length]; simp [BM.linesS]⟩
      · have q1 : ((b.toNat : Int) == 10) = false := by simp only [beq_eq_false_iff_ne, ne_eq]; intro e; exact h10 (UInt8.toNat_inj.1 (by rw [show (10 : UInt8).toNat = 10 from rfl]; omega))
        have hLb : 10 ∉ L ++ [b] := by simp only [List.mem_append, List.mem_cons, List.not_mem_nil, or_false, not_or]; exact ⟨hL10, fun e => h10 e.symm⟩
        have hls2 : BM.linesS xs = done ++ BM.linesS ((L ++ [b]) ++ xs.drop (k + 1)) := by rw [hls, List.append_assoc]; rfl
        have hgo : ∀ (w1 : World) (v1 : Value), (wr.alloc (.cells #[.int .u8 (b.toNat : Int)] 5)).grownBy w1 (Value.slice ca L.length cc).ownBlock → (v1.ownBlock = (Value.slice ca L.length cc).ownBlock ∨ v1.ownBlock = some (wr.alloc (.cells #[.int .u8 (b.toNat : Int)] 5)).heap.size) →
            w1.ownsRow w.heap.size 43 2 (.slice oa done.length oc) done.length (vs.flatMap fun p => [p.1, .bool p.2]) ∧ (∀ j (h : j < done.length) (h' : j < vs.length), w1.ownsRow w.heap.size 5 1 vs[j].1 done[j].length (Lib.byteCells done[j])) ∧ Below w.heap.size w w1 ∧ Apart vs v1 := fun w1 v1 hg hat => by
          refine ⟨(hown.alloc _).kept hg (own_type hown hcur (fun e => line_ne e.symm)), fun j h h' => ((hrows j h h').alloc _).kept hg (hap _ (List.getElem_mem h')), (hB.alloc (by omega) _).grown hg (by simp; omega) (fun j hj => (hcur.lt j hj).1), fun p hp => ?_⟩
          obtain ⟨j, hj, rfl⟩ := List.mem_iff_getElem.1 hp
          have hu : v1.ownBlock = none ∨ (Value.slice ca L.length cc).ownBlock = v1.ownBlock ∨ ∃ g, v1.ownBlock = some g ∧ wr.heap.size ≤ g := by
            rcases hat with e | e
            · exact .inr (.inl e.symm)
            · exact .inr (.inr ⟨_, e, by simp⟩)
          exact own_new hcur hu _ (hrows j (by omega) hj) (hap _ (List.getElem_mem hj))
        have hv0 := Lib.hid hvl
        have hcu := Lib.hid hcur
        replace hgo := Lib.hid hgo
        replace hls2 := Lib.hid hls2
        replace hLb := Lib.hid hLb
        clear hap hB hvl hrows hcur hls hL10 hown
        have hLl : L.length + 1 ≤ n := by omega
        by_cases hlast : k + 1 = n
        · have hw : IntKind.i64.wrap ((n : Int) - 1) = (n : Int) - 1 := IntWalk.i64_in _ (by omega)
          have q2 : ((k : Int) == (n : Int) - 1) = true := by simp; omega
          replace hlast := Lib.hid hlast
          go_wp2_with (first
            | (at_builtin; refine wpList_append_own_at _ rfl (.tmp 22) (.tmp 27) 23 rfl w.heap.size 5 i1 (.int .u8 0) 1 1 Tryd.underlying23 hj hy0 hy1 hy2 rfl (by decide) _ _ _ rfl (hcu.out.alloc _) ⟨wr.heap.size, 0, none⟩ 1 1 [.int .u8 (b.toNat : Int)] rfl rfl (cells_new _ _ rfl _ [.int .u8 (b.toNat : Int)]) (by intro u hu; simp only [List.mem_cons, List.not_mem_nil, or_false] at hu; subst hu; rfl) (by unfold maxLen; omega) (by omega) (by simp; omega) ?_; intro v1 w1 hown1 hgrow1 hnil1 hat1; obtain ⟨g1, g2, g3, g4⟩ := hgo.out w1 v1 hgrow1 hat1; obtain ⟨a1, c1, rfl⟩ := own_slice hown1; have hz1' := g3.size; replace hown1 := Lib.hid hown1; replace g1 := Lib.hid g1; replace g2 := Lib.hid g2; replace g3 := Lib.hid g3; replace g4 := Lib.hid g4; clear hgrow1 hat1)
            | (at_builtin; refine wpList_append_own _ rfl (.tmp 34) (.tmp 37) 40 rfl w.heap.size 43 i0 (.agg #[.slice none 0 0, .bool false]) 2 32 Tryd.underlying40 hi hz0 hz1 hz2 rfl (by decide) _ _ _ rfl (g1.out.alloc _) ⟨w1.heap.size, 0, none⟩ 1 1 [.slice a1 (L.length + 1) c1, .bool false] rfl rfl (cells_new _ _ rfl _ [.slice a1 (L.length + 1) c1, .bool false]) (by intro u hu; simp only [List.mem_cons, List.not_mem_nil, or_false] at hu; rcases hu with rfl | rfl <;> rfl) (by unfold maxLen; omega) (by omega) (by simp; omega) ?_; intro v2 w2 hown2 hgrow2 hnil2; have hB2 : Below w.heap.size w w2 := (g3.out.alloc (by omega) _).grown hgrow2 (by simp; omega) (fun j hj => (g1.out.lt j hj).1); replace hown2 := Lib.hid hown2; replace hgrow2 := Lib.hid hgrow2; replace hB2 := Lib.hid hB2))
          all_goals go_roundg (n - (k + 1))
          case measure => omega
          case rel =>
            have hL : w1.ownsRow w.heap.size 5 1 (.slice a1 (L.length + 1) c1) (L ++ [b]).length (Lib.byteCells (L ++ [b])) := by rw [List.length_append, byteCells_app]; exact hown1.out
            obtain ⟨vs2, f1, f2, f3⟩ := LineRow.snoc (v' := v2) (nl := false) hv0.out g1.out g2.out hL hgrow2.out hown2.out
            have hd : done ++ [L ++ [b]] = BM.linesS xs := by rw [hls2.out, hlast.out, ← hn.out, List.drop_length, List.append_nil, lines_last hLb.out (by simp)]
            exact ⟨k + 1, done ++ [L ++ [b]], [], vs2, by rw [hn.out], by go_num, by rw [hn.out]; omega, f1, by simpa using f2, f3, hB2.out, hB2.out.size, by simp, by simp; omega, fun e => absurd e (by have := hlast.out; have := hn.out; omega), fun _ => hd⟩
        · have hw : IntKind.i64.wrap ((n : Int) - 1) = (n : Int) - 1 := IntWalk.i64_in _ (by omega)
          have q2 : ((k : Int) == (n : Int) - 1) = false := by simp; omega
          replace hlast := Lib.hid hlast
          go_wp2_with (at_builtin; refine wpList_append_own_at _ rfl (.tmp 22) (.tmp 27) 23 rfl w.heap.size 5 i1 (.int .u8 0) 1 1 Tryd.underlying23 hj hy0 hy1 hy2 rfl (by decide) _ _ _ rfl (hcu.out.alloc _) ⟨wr.heap.size, 0, none⟩ 1 1 [.int .u8 (b.toNat : Int)] rfl rfl (cells_new _ _ rfl _ [.int .u8 (b.toNat : Int)]) (by intro u hu; simp only [List.mem_cons, List.not_mem_nil, or_false] at hu; subst hu; rfl) (by unfold maxLen; omega) (by omega) (by simp; omega) ?_; intro v1 w1 hown1 hgrow1 hnil1 hat1; obtain ⟨g1, g2, g3, g4⟩ := hgo.out w1 v1 hgrow1 hat1; obtain ⟨a1, c1, rfl⟩ := own_slice hown1; have hz1' := g3.size; replace hown1 := Lib.hid hown1; replace g1 := Lib.hid g1; replace g2 := Lib.hid g2; replace g3 := Lib.hid g3; replace g4 := Lib.hid g4; clear hgrow1 hat1)
          all_goals go_roundg (n - (k + 1))
          case measure => omega
          case rel =>
            have hL : w1.ownsRow w.heap.size 5 1 (.slice a1 (L.length + 1) c1) (L ++ [b]).length (Lib.byteCells (L ++ [b])) := by rw [List.length_append, byteCells_app]; exact hown1.out
            exact ⟨k + 1, done, L ++ [b], vs, by rw [hn.out], by go_num, by rw [hn.out]; omega, hv0.out, g1.out, g2.out, g3.out, g3.out.size, by simp; omega, by omega, fun _ => ⟨hls2.out, hLb.out, hL, g4.out⟩, fun e => absurd e (by have := hlast.out; have := hn.out; omega)⟩
    · obtain rfl : k = n := by omega
      have hd := hfin hn.out.symm
      go_wp2_with fail
      go_ret
      exact ⟨_, rfl, hd ▸ ⟨vs, hvl, hown, hrows⟩, hB⟩
end Go.Proofs.YtaginadnaajleaaDoor
