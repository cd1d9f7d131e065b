/-
  The contract of the reference's Parse, of chapter 29: its walk.
  Conditions: as each theorem states them.
-/
import Derived.Test.YtjfpepinmbbnbaaDoorOrd12
import Derived.Test.YtjfpepinmbbnbaaDoorOrd11
import Derived.Deep.CutBlock
import Derived.Deep.DeepCutAuto
namespace Go.Proofs.YtjfpepinmbbnbaaDoor
open Go.RowKit
set_option linter.unusedVariables false
set_option linter.unusedSimpArgs false
theorem set4' {X : World} {b : Nat} {t : TypeId} {x y z u : Value} (x' y' z' u' : Value) (h : Blk X b t [x, y, z, u]) : Blk ((((X.setCell ⟨b, 0, none⟩ x').setCell ⟨b, 1, none⟩ y').setCell ⟨b, 2, none⟩ z').setCell ⟨b, 3, none⟩ u') b t [x', y', z', u'] :=
  (((h.set 0 x').set 1 y').set 2 z').set 3 u'
theorem rret4 {L : List UInt8} {w X : World} {k n m c : Int} {s : List UInt8} {x y z u : Value} {t0 t1 : Value} {rest : List Value} (hp : OM.parse L = (⟨k, n, m, s⟩, c)) (bO : Blk X w.heap.size 41 [x, y, z, u]) (hO : Below w.heap.size w X) :
    bodyPost Tryd.prog Tryd.f23 (OrdIs (OM.parse L) w) Exit.ret { tmps := (t0 :: t1 :: .pointer (some ⟨w.heap.size, 0, none⟩) :: .int .i64 c :: rest).toArray, defers := [] }
      ((((X.setCell ⟨w.heap.size, 0, none⟩ (.int .i64 k)).setCell ⟨w.heap.size, 1, none⟩ (.int .i64 n)).setCell ⟨w.heap.size, 2, none⟩ (.int .i64 m)).setCell ⟨w.heap.size, 3, none⟩ (strV s)) := by
  obtain ⟨c0, c1, c2, c3⟩ := cells4 (set4' (.int .i64 k) (.int .i64 n) (.int .i64 m) (strV s) bO)
  have hB := (((hO.setCell (p := ⟨w.heap.size, 0, none⟩) (by simp) (.int .i64 k)).setCell (p := ⟨w.heap.size, 1, none⟩) (by simp) (.int .i64 n)).setCell (p := ⟨w.heap.size, 2, none⟩) (by simp) (.int .i64 m)).setCell (p := ⟨w.heap.size, 3, none⟩) (by simp) (strV s)
  generalize ((((X.setCell ⟨w.heap.size, 0, none⟩ (.int .i64 k)).setCell ⟨w.heap.size, 1, none⟩ (.int .i64 n)).setCell ⟨w.heap.size, 2, none⟩ (.int .i64 m)).setCell ⟨w.heap.size, 3, none⟩ (strV s)) = Y at *
  exact bodyPost_ret (v := .tuple #[.agg #[.int .i64 k, .int .i64 n, .int .i64 m, strV s], .int .i64 c]) (by simp [results, Tryd.results23, go_sem, c0, c1, c2, c3]) rfl (OrdIs.mk hp hB)
/-- behind the switch -/
def SwR (L : List UInt8) (w : World) (H : Nat) (k : Int) (s9 s10 s11 : Value) (wx : World) : Prop := ∃ (may must : Nat) (n m : Int) (s : List UInt8) (rs : List (List UInt8)) (a : Option Addr) (c : Nat), s9 = .slice a rs.length c ∧ s10 = .int .i64 (may : Int) ∧ s11 = .int .i64 (must : Int) ∧ may ≤ 2 ∧ must ≤ 2 ∧
  OM.parse L = OM.rg k may must 0 ⟨k, n, m, s⟩ rs ∧ StrAt (fun b => b ≠ H) wx a rs ∧ rs.length ≤ 100000 ∧ (∀ i (h : i < rs.length), (rs[i]).length ≤ 1000000) ∧ Blk wx H 41 [.int .i64 k, .int .i64 n, .int .i64 m, strV s] ∧
  Blk wx (w.heap.size + 1) 41 [.int .i64 0, .int .i64 0, .int .i64 0, .string ⟨#[]⟩] ∧ (∃ x y z u, Blk wx w.heap.size 41 [x, y, z, u]) ∧ Below w.heap.size w wx ∧ w.heap.size + 1 < H
/-- the reference's loop over the numbers -/
def LpR (L : List UInt8) (w : World) (H : Nat) (k : Int) (may must : Nat) (s2 : List UInt8) (rs : List (List UInt8)) (a2 : Option Addr) (gh : Nat) (i : Value) (wr : World) : Prop := ∃ (j : Nat) (n m : Int), gh = rs.length - j ∧ i = .int .i64 (j : Int) ∧ j ≤ rs.length ∧ OM.parse L = OM.rg k may must j ⟨k, n, m, s2⟩ (rs.drop j) ∧
  Blk wr H 41 [.int .i64 k, .int .i64 n, .int .i64 m, strV s2] ∧ Blk wr (w.heap.size + 1) 41 [.int .i64 0, .int .i64 0, .int .i64 0, .string ⟨#[]⟩] ∧ (∃ x y z u, Blk wr w.heap.size 41 [x, y, z, u]) ∧ Below w.heap.size w wr ∧ StrAt (fun b => b ≠ H) wr a2 rs
theorem strAt_set {H : Nat} {w6 : World} {a : Option Addr} {rs : List (List UInt8)} (h : StrAt (fun b => b ≠ H) w6 a rs) (o : Nat) (v : Value) : StrAt (fun b => b ≠ H) (w6.setCell ⟨H, o, none⟩ v) a rs :=
  h.keep (by simp [World.setCell]) (fun b hb _ => Below.heap_setCell _ _ _ _ hb)
theorem lp_n {L : List UInt8} {w : World} {H : Nat} {k : Int} {may must : Nat} {s2 : List UInt8} {rs : List (List UInt8)} {a2 : Option Addr} {gh j : Nat} {n m xn : Int} {wr w6 : World} {y0 y1 y2 y3 : Value} (hp : OM.parse L = OM.rg k may must (j + 1) ⟨k, xn, m, s2⟩ (rs.drop (j + 1))) (hlt : j < rs.length) (hH : w.heap.size + 1 < H)
    (hBO : Blk wr H 41 [.int .i64 k, .int .i64 n, .int .i64 m, strV s2]) (hBN : Blk wr (w.heap.size + 1) 41 [.int .i64 0, .int .i64 0, .int .i64 0, .string ⟨#[]⟩]) (hBR : Blk wr w.heap.size 41 [y0, y1, y2, y3]) (hB : Below w.heap.size w wr) (hst : StrAt (fun b => b ≠ H) wr a2 rs) (hb6 : Below wr.heap.size wr w6) (hg : gh = rs.length - (j + 1)) :
    LpR L w H k may must s2 rs a2 gh (.int .i64 (j + 1)) (w6.setCell ⟨H, 1, none⟩ (.int .i64 xn)) :=
  ⟨j + 1, xn, m, hg, by go_num, by omega, hp, (hBO.below hb6).set 1 _, (hBN.below hb6).set_other (p := ⟨H, 1, none⟩) (by simp; omega) _, ⟨y0, y1, y2, y3, (hBR.below hb6).set_other (p := ⟨H, 1, none⟩) (by simp; omega) _⟩, (bl_trans hB hb6).setCell (p := ⟨H, 1, none⟩) (by simp; omega) _, strAt_set (hst.below hb6) _ _⟩
theorem lp_m {L : List UInt8} {w : World} {H : Nat} {k : Int} {may must : Nat} {s2 : List UInt8} {rs : List (List UInt8)} {a2 : Option Addr} {gh j : Nat} {n m xn : Int} {wr w6 : World} {y0 y1 y2 y3 : Value} (hp : OM.parse L = OM.rg k may must (j + 1) ⟨k, n, xn, s2⟩ (rs.drop (j + 1))) (hlt : j < rs.length) (hH : w.heap.size + 1 < H)
    (hBO : Blk wr H 41 [.int .i64 k, .int .i64 n, .int .i64 m, strV s2]) (hBN : Blk wr (w.heap.size + 1) 41 [.int .i64 0, .int .i64 0, .int .i64 0, .string ⟨#[]⟩]) (hBR : Blk wr w.heap.size 41 [y0, y1, y2, y3]) (hB : Below w.heap.size w wr) (hst : StrAt (fun b => b ≠ H) wr a2 rs) (hb6 : Below wr.heap.size wr w6) (hg : gh = rs.length - (j + 1)) :
    LpR L w H k may must s2 rs a2 gh (.int .i64 (j + 1)) (w6.setCell ⟨H, 2, none⟩ (.int .i64 xn)) :=
  ⟨j + 1, n, xn, hg, by go_num, by omega, hp, (hBO.below hb6).set 2 _, (hBN.below hb6).set_other (p := ⟨H, 2, none⟩) (by simp; omega) _, ⟨y0, y1, y2, y3, (hBR.below hb6).set_other (p := ⟨H, 2, none⟩) (by simp; omega) _⟩, (bl_trans hB hb6).setCell (p := ⟨H, 2, none⟩) (by simp; omega) _, strAt_set (hst.below hb6) _ _⟩
theorem sw_mk {L : List UInt8} {w : World} {H : Nat} {X : World} {may must : Nat} {k n m : Int} {s : List UInt8} {rs : List (List UInt8)} {a : Option Addr} {c nn : Nat} (hnn : rs.length = nn) (y0 y1 y2 y3 : Value) (h1 : may ≤ 2) (h2 : must ≤ 2) (hp : OM.parse L = OM.rg k may must 0 ⟨k, n, m, s⟩ rs) (hl : rs.length ≤ 100000) (hst : StrAt (fun b => b ≠ H) X a rs) (hlx : ∀ i (h : i < rs.length), (rs[i]).length ≤ 1000000)
    (hK : Blk X H 41 [.int .i64 k, .int .i64 n, .int .i64 m, strV s]) (hN : Blk X (w.heap.size + 1) 41 [.int .i64 0, .int .i64 0, .int .i64 0, .string ⟨#[]⟩]) (hO : Blk X w.heap.size 41 [y0, y1, y2, y3]) (hB : Below w.heap.size w X) (hH : w.heap.size + 1 < H) :
    SwR L w H k (.slice a nn c) (.int .i64 (may : Int)) (.int .i64 (must : Int)) X := by
  subst hnn
  exact ⟨may, must, n, m, s, rs, a, c, rfl, rfl, rfl, h1, h2, hp, hst, hl, hlx, hK, hN, ⟨y0, y1, y2, y3, hO⟩, hB, hH⟩
theorem strAt_tail {K : Nat → Prop} {w : World} {b o : Nat} {x : List UInt8} {r : List (List UInt8)} (h : StrAt K w (some ⟨b, o, none⟩) (x :: r)) : StrAt K w (some ⟨b, o + 1, none⟩) r := fun _ => by
  obtain ⟨b', o', e, hk, hl, hc⟩ := h (by simp)
  injection e with e
  injection e with e1 e2 e3
  subst e1; subst e2
  refine ⟨_, o + 1, rfl, hk, hl, fun i hi => ?_⟩
  have := hc (i + 1) (by simp; omega)
  simp only [List.getElem_cons_succ] at this
  rw [← this]; congr 2; omega
/-- the words behind the first one -/
def RestR (Y : World) (H n : Nat) (r : List (List UInt8)) (s9 : Value) (wx : World) : Prop := ∃ a c, s9 = .slice a n c ∧ n ≤ c ∧ StrAt (fun b => b ≠ H) Y a r ∧ Y = wx
theorem strAt_rest {K : Nat → Prop} {w : World} {g : Nat} {x : List UInt8} {r : List (List UInt8)} (h : StrAt K w (some ⟨g, 0, none⟩) (x :: r)) : StrAt K w (some ⟨g, 1, none⟩) r := StrAt.rest h
set_option maxHeartbeats 4000000 in
set_option maxRecDepth 100000 in
theorem rparse_any (L : List UInt8) (hL : L.length ≤ 100000) (w : World) :
    Calls Tryd.prog 23 #[strV L] w (OrdIs (OM.parse L) w) := by
  have hwd := fun (W : World) => rwords_any L hL W
  have hwl := W_len L
  cases hz : OM.W L with
  | nil =>
    rw [hz] at hwd
    have hp := Lib.hid (OM.parse_nil hz)
    replace hz := Lib.hid hz
    replace hwd := Lib.hid hwd
    go_enter Tryd.func23, Tryd.ntmps23
    go_wp2_with (go_at_call 51; refine (hwd.out _).mono ?_; rintro e w3 ⟨a, c, rfl, hc, ha, hst, hb3⟩; obtain ⟨B0, B1, bW⟩ := two_orders w 0 0 0 hb3; have p0 := cells4 B0; have p1 := cells4 B1; have f0 := free4 B0; have lb := B1.lt; replace B0 := Lib.hid B0; replace B1 := Lib.hid B1; replace bW := Lib.hid bW; clear hst ha hb3)
    exact rret4 (s := []) hp.out B0.out bW.out
  | cons x r =>
    rw [hz] at hwd hwl
    have hx0 := OM.W_ne hz
    have hxs : ∀ z ∈ x :: r, z.length ≤ 1000000 := fun z hzz => by
      rw [← hz] at hzz
      obtain ⟨q, hq, rfl⟩ := List.mem_map.1 hzz
      have := wds_pos L.length L 0 (Nat.le_refl _) q hq
      omega
    obtain ⟨n, hn⟩ : ∃ n, (x :: r).length = n := ⟨_, rfl⟩
    have hn0 : 0 < n := by rw [← hn]; simp
    have hni : ((n : Int) == 0) = false := by simp; omega
    obtain ⟨kk, hkk⟩ : ∃ kk, OM.idx OM.namesW x = kk := ⟨_, rfl⟩
    have hk18 := idx_bound (xs := OM.namesW) (v := x)
    rw [hkk] at hk18
    have hk18' : kk < 18 := hk18.2
    have hk18'' := hk18.1
    clear hk18
    unfold WordsIs at hwd
    rw [hn] at hwd
    have hin := fun (W : World) (g : Nat) (hg : g = W.heap.size) => (by
      subst hg
      rw [← hkk]
      exact in_any29 (some ⟨W.heap.size, 0, none⟩) 18 OM.namesW x (W.alloc (.cells (OM.namesW.map strV).toArray 9)) (by decide) (StrAt.lit W _ _) :
      Calls Tryd.prog 52 #[strV x, .slice (some ⟨g, 0, none⟩) 18 18] (W.alloc (.cells (OM.namesW.map strV).toArray 9)) fun e w' => e = .returned (.int .i64 kk) ∧ (W.alloc (.cells (OM.namesW.map strV).toArray 9)) = w')
    replace hz := Lib.hid hz
    replace hwd := Lib.hid hwd
    replace hin := Lib.hid hin
    replace hxs := Lib.hid hxs
    replace hwl := Lib.hid hwl
    replace hx0 := Lib.hid hx0
    replace hkk := Lib.hid hkk
    go_enter Tryd.func23, Tryd.ntmps23
    go_upto_region 7 with (first
      | (go_at_call 51; refine (hwd.out _).mono ?_; rintro e w3 ⟨a, c, rfl, hc, ha, hst, hb3⟩; obtain ⟨B0, B1, bW⟩ := two_orders w 0 0 0 hb3; obtain ⟨g, rfl⟩ := ha (by simp); obtain ⟨_, _, eg, xw⟩ := hst.nth (i := 0) (by simp); injection eg with eg; injection eg with eg1 eg2; subst eg1; subst eg2; simp only [Nat.add_zero, List.getElem_cons_zero] at xw; have lg := World.block_lt_of_cell? w3 _ xw; simp only at lg; have lb := B1.lt; replace B0 := Lib.hid B0; replace B1 := Lib.hid B1; replace bW := Lib.hid bW; replace hst := Lib.hid hst; clear ha hb3)
      | (go_at_call 52; refine (hin.out _ _ (by simp)).mono ?_; rintro e w5 ⟨rfl, hw5⟩))
    have xW : Below w3.heap.size w3 w5 := hw5 ▸ bl_alloc (Below.refl _ _) _
    have zO := B0.out.below xW
    have zN := B1.out.below xW
    have zB := bl_trans bW.out xW
    have zst := hst.out.below xW
    clear hw5 xw lg lb hin hwd
    have c0 := cells4 zO
    have c1 := cells4 zN
    have f0 := free4 zO
    have lz := zN.lt
    have lz2 := zO.lt
    have hnc := Lib.hid hc
    replace zst := Lib.hid zst
    replace zO := Lib.hid zO
    replace zN := Lib.hid zN
    replace zB := Lib.hid zB
    by_cases hk1 : kk < 1
    · have q1 : decide (kk < 1) = true := by simpa using hk1
      have hp : OM.parse L = (OM.none, 30) := by
        have hxn : ¬ x ∈ OM.namesW := fun hm => by
          have h0 := (idx_ge (xs := OM.namesW) (v := x)).2 hm
          rw [hkk.out] at h0
          obtain rfl : kk = 0 := by omega
          have := OM.idx_get (k := 0) hkk.out
          injection this with this
          exact hx0.out this.symm
        obtain ⟨e1, e2⟩ := OM.rest_not x hxn r
        rw [OM.parse_W hz.out e2, e1]
      replace hp := Lib.hid hp
      clear hn hc
      go_wp2_with fail
      exact rret4 (s := []) hp.out zO.out zB.out
    · have q1 : decide (kk < 1) = false := by simpa using hk1
      have hnr : n = r.length + 1 := by rw [← hn]; simp
      go_upto_region 10 with fail
      obtain ⟨Y, hY⟩ : ∃ Y, w5.alloc (kindO kk 0 0) = Y := ⟨_, rfl⟩
      change Code.wp _ _ _ _ (w5.alloc (kindO kk 0 0))
      rw [hY]
      have xY : Below w5.heap.size w5 Y := hY ▸ bl_alloc (Below.refl _ _) _
      have yK : Blk Y w5.heap.size 41 [.int .i64 kk, .int .i64 0, .int .i64 0, .string ⟨#[]⟩] := hY ▸ Blk.new w5 41 [.int .i64 kk, .int .i64 0, .int .i64 0, .string ⟨#[]⟩]
      have yO := zO.out.below xY
      have yN := zN.out.below xY
      have yB := bl_trans zB.out xY
      have yst : StrAt (fun b => b ≠ w5.heap.size) Y (some ⟨g, 0, none⟩) (x :: r) := fun h0 => by
        obtain ⟨b, o, e, _, hl, hcl⟩ := (zst.out) h0
        exact ⟨b, o, e, by omega, Nat.lt_of_lt_of_le hl xY.size, fun i hi => (xY.cell (p := ⟨b, o + i, none⟩) hl).trans (hcl i hi)⟩
      clear hY c0 c1 f0 xY
      obtain ⟨H, hH⟩ : ∃ H, w5.heap.size = H := ⟨_, rfl⟩
      rw [hH] at yK yst lz lz2 ⊢
      have lH : H < Y.heap.size := yK.lt
      replace yst := Lib.hid yst
      replace yB := Lib.hid yB
      clear zst zO zN zB B0 B1 bW hst hH hnc
      have i0 : (0 : Int) ≤ 1 := by omega
      have i1 : (1 : Int) ≤ n := by omega
      have i2 : (n : Int) ≤ c := by omega
      have i3 : c - 1 = 0 ∨ c - 1 ≠ 0 := by omega
      go_cut [9] from 34 to 35 (fun s9 wx => RestR Y H (n - 1) r s9 wx)
      case first =>
        have hr1 : RestR Y H (n - 1) r (.slice (some ⟨g, 1, none⟩) (n - 1) (c - 1)) Y := ⟨_, c - 1, rfl, by omega, strAt_rest yst.out, rfl⟩
        have hr0 : c - 1 = 0 → ∀ c', RestR Y H (n - 1) r (.slice (some ⟨g, 0, none⟩) (n - 1) c') Y := fun h0 c' => ⟨_, c', rfl, by omega, fun h => by omega, rfl⟩
        replace hr0 := Lib.hid hr0
        replace hr1 := Lib.hid hr1
        clear hn hnr hc
        rcases i3 with i3 | i3
        all_goals
          go_wp2_with fail
          go_meet
        · obtain rfl : c = 1 := by omega
          obtain rfl : n = 1 := by omega
          exact hr0.out rfl _
        · exact hr1.out
      case rest =>
        obtain ⟨a9, c9, rfl, hc9, hst9, rfl⟩ := hcut
        have hrl : r.length = n - 1 := by omega
        have hn1 : n - 1 ≤ 100000 := by have := hwl.out; omega
        obtain ⟨n9, hn9⟩ : ∃ n9, n - 1 = n9 := ⟨_, rfl⟩
        rw [hn9] at hrl hn1 hc9 ⊢
        clear yst i1 i2 i3 i0 hnr hn hc hni hn0 hn9
        go_upto_block 0 with fail
        have cK := cells4 yK
        have fK := free4 yK
        have cN := cells4 yN
        have cO := cells4 yO
        have fO := free4 yO
        replace yK := Lib.hid yK
        replace yN := Lib.hid yN
        replace yO := Lib.hid yO
        replace hst9 := Lib.hid hst9
        replace hrl := Lib.hid hrl
        have hret := fun (X : World) (k n m c : Int) (s : List UInt8) (x y z u t0 t1 : Value) (rest : List Value) => @rret4 L w X k n m c s x y z u t0 t1 rest
        generalize bodyPost Tryd.prog Tryd.f23 (OrdIs (OM.parse L) w) = QQ at *
        replace hret := Lib.hid hret
        go_cut [9, 10, 11, 12] from 37 to 129 (fun s9 s10 s11 s12 wx => SwR L w H kk s9 s10 s11 wx)
        case first =>
          have hlen : ∀ i (h : i < r.length), (r[i]).length ≤ 1000000 := fun i h => hxs.out _ (List.mem_cons_of_mem _ (List.getElem_mem h))
          have hget : ∀ k : Nat, kk = k → OM.namesW[k]? = some x := fun k e => OM.idx_get (by rw [hkk.out, e])
          have hcase : kk = 1 ∨ kk = 2 ∨ kk = 3 ∨ kk = 4 ∨ kk = 5 ∨ kk = 6 ∨ kk = 7 ∨ kk = 8 ∨ kk = 9 ∨ kk = 10 ∨ kk = 11 ∨ kk = 12 ∨ kk = 13 ∨ kk = 14 ∨ kk = 15 ∨ kk = 16 ∨ kk = 17 := by omega
          have sw := fun (X : World) (may must : Nat) (k n m : Int) (s : List UInt8) => @sw_mk L w H X may must k n m s r a9 c9 n9 hrl.out
          replace sw := Lib.hid sw
          replace hlen := Lib.hid hlen
          replace hget := Lib.hid hget
          clear q1 hk1 hk18' hk18''
          rcases hcase with rfl | rfl | rfl | rfl | rfl | rfl | rfl | rfl | rfl | rfl | rfl | rfl | rfl | rfl | rfl | rfl | rfl
          · have hx : x = [115, 116, 101, 112] := by have := hget.out 1 rfl; injection this with this; exact this.symm
            have hp : OM.parse L = OM.rg 1 1 0 0 ⟨1, 1, 0, []⟩ r := by rw [OM.parse_W hz.out (by rw [hx]; decide), hx]; show OM.fin (OM.read (1, true, true, true) r) = _; exact OM.rg_steps 1 (by omega) r
            have hs := Lib.hid (sw.out (Y.setCell ⟨H, 1, none⟩ (.int .i64 1)) 1 0 1 1 0 [] _ _ _ _ (by omega) (by omega) hp (hrl.out ▸ hn1) (strAt_set hst9.out _ _) hlen.out (yK.out.set 1 _) (yN.out.set_other (p := ⟨H, 1, none⟩) (by simp; omega) _) (yO.out.set_other (p := ⟨H, 1, none⟩) (by simp; omega) _) (yB.out.setCell (p := ⟨H, 1, none⟩) (by simp; omega) _) lz)
            clear hx hp
            go_wp2_with fail
            go_meet
            exact hs.out
          · have hx : x = [110, 101, 120, 116] := by have := hget.out 2 rfl; injection this with this; exact this.symm
            have hp : OM.parse L = OM.rg 2 1 0 0 ⟨2, 1, 0, []⟩ r := by rw [OM.parse_W hz.out (by rw [hx]; decide), hx]; show OM.fin (OM.read (2, true, true, true) r) = _; exact OM.rg_steps 2 (by omega) r
            have hs := Lib.hid (sw.out (Y.setCell ⟨H, 1, none⟩ (.int .i64 1)) 1 0 2 1 0 [] _ _ _ _ (by omega) (by omega) hp (hrl.out ▸ hn1) (strAt_set hst9.out _ _) hlen.out (yK.out.set 1 _) (yN.out.set_other (p := ⟨H, 1, none⟩) (by simp; omega) _) (yO.out.set_other (p := ⟨H, 1, none⟩) (by simp; omega) _) (yB.out.setCell (p := ⟨H, 1, none⟩) (by simp; omega) _) lz)
            clear hx hp
            go_wp2_with fail
            go_meet
            exact hs.out
          · have hx : x = [99, 111, 110, 116] := by have := hget.out 3 rfl; injection this with this; exact this.symm
            have hp : OM.parse L = OM.rg 3 0 0 0 ⟨3, 0, 0, []⟩ r := by rw [OM.parse_W hz.out (by rw [hx]; decide), hx]; show OM.fin (OM.read (3, false, false, false) r) = _; exact OM.rg_none 3 r
            have hs := Lib.hid (sw.out Y 0 0 3 0 0 [] _ _ _ _ (by omega) (by omega) hp (hrl.out ▸ hn1) hst9.out hlen.out yK.out yN.out yO.out yB.out lz)
            clear hx hp
            go_wp2_with fail
            go_meet
            exact hs.out
          · have hx : x = [98, 97, 99, 107] := by have := hget.out 4 rfl; injection this with this; exact this.symm
            have hp : OM.parse L = OM.rg 4 1 0 0 ⟨4, 1, 0, []⟩ r := by rw [OM.parse_W hz.out (by rw [hx]; decide), hx]; show OM.fin (OM.read (4, true, true, true) r) = _; exact OM.rg_steps 4 (by omega) r
            have hs := Lib.hid (sw.out (Y.setCell ⟨H, 1, none⟩ (.int .i64 1)) 1 0 4 1 0 [] _ _ _ _ (by omega) (by omega) hp (hrl.out ▸ hn1) (strAt_set hst9.out _ _) hlen.out (yK.out.set 1 _) (yN.out.set_other (p := ⟨H, 1, none⟩) (by simp; omega) _) (yO.out.set_other (p := ⟨H, 1, none⟩) (by simp; omega) _) (yB.out.setCell (p := ⟨H, 1, none⟩) (by simp; omega) _) lz)
            clear hx hp
            go_wp2_with fail
            go_meet
            exact hs.out
          · have hx : x = [114, 101, 118, 101, 114, 116] := by have := hget.out 5 rfl; injection this with this; exact this.symm
            have hp : OM.parse L = OM.rg 5 0 0 0 ⟨5, 0, 0, []⟩ r := by rw [OM.parse_W hz.out (by rw [hx]; decide), hx]; show OM.fin (OM.read (5, false, false, false) r) = _; exact OM.rg_none 5 r
            have hs := Lib.hid (sw.out Y 0 0 5 0 0 [] _ _ _ _ (by omega) (by omega) hp (hrl.out ▸ hn1) hst9.out hlen.out yK.out yN.out yO.out yB.out lz)
            clear hx hp
            go_wp2_with fail
            go_meet
            exact hs.out
          · have hx : x = [103, 111, 116, 111] := by have := hget.out 6 rfl; injection this with this; exact this.symm
            have hp : OM.parse L = OM.rg 6 1 1 0 ⟨6, 0, 0, []⟩ r := by rw [OM.parse_W hz.out (by rw [hx]; decide), hx]; show OM.fin (OM.read (6, true, false, false) r) = _; exact OM.rg_one 6 (by omega) r
            have hs := Lib.hid (sw.out Y 1 1 6 0 0 [] _ _ _ _ (by omega) (by omega) hp (hrl.out ▸ hn1) hst9.out hlen.out yK.out yN.out yO.out yB.out lz)
            clear hx hp
            go_wp2_with fail
            go_meet
            exact hs.out
          · have hx : x = OM.breakW := by have := hget.out 7 rfl; injection this with this; exact this.symm
            have hxw : ∀ rs, OM.W L = x :: rs → OM.parse L = OM.rest1 OM.breakW rs := fun rs h => by rw [OM.parse_W h (by rw [hx]; decide), hx]
            cases r with
            | nil =>
              have hp : OM.parse L = (OM.none, 9) := hxw [] hz.out
              obtain rfl : n9 = 0 := by have := hrl.out; simpa using this.symm
              replace hp := Lib.hid hp
              clear hx
              go_wp2_with fail
              exact hret.out _ _ _ _ _ _ _ _ _ _ _ _ _ hp.out yO.out yB.out
            | cons y q =>
              obtain ⟨b, o, rfl, yw⟩ := hst9.out.nth (i := 0) (by simp)
              simp only [Nat.add_zero, List.getElem_cons_zero] at yw
              have lb : b < Y.heap.size := World.block_lt_of_cell? Y _ yw
              have lb1 : b < Y.heap.size + 1 := by omega
              have lH1 : H < Y.heap.size + 1 := by omega
              have lN1 : w.heap.size + 1 < Y.heap.size := yN.out.lt
              have lO1 : w.heap.size < Y.heap.size := yO.out.lt
              have hql : q.length = n9 - 1 := by have := hrl.out; simp only [List.length_cons] at this; omega
              have hn90 : 0 < n9 := by have := hrl.out; simp only [List.length_cons] at this; omega
              have hn91 : (0 : Int) < n9 := by omega
              have hn92 : ((n9 : Int) == 0) = false := by simp; omega
              have hn93 : (1 : Int) ≤ n9 := by omega
              have hn94 : (n9 : Int) ≤ c9 := by omega
              have j0 : (0 : Int) ≤ 1 := by omega
              have hq1 : q.length ≤ 100000 := by omega
              have hy : y.length ≤ 1000000 := hlen.out 0 (by simp)
              have hqx : ∀ i (h : i < q.length), (q[i]).length ≤ 1000000 := fun i h => by have := hlen.out (i + 1) (by simp; omega); simpa using this
              have hstq := Lib.hid (strAt_tail hst9.out)
              have i3 : c9 - 1 = 0 ∨ c9 - 1 ≠ 0 := by omega
              replace hqx := Lib.hid hqx
              replace hlen := Lib.hid True.intro
              have hin := fun (W : World) (g : Nat) (hg : g = W.heap.size) => (by
                subst hg
                exact in_any29 (some ⟨W.heap.size, 0, none⟩) 2 [OM.cmdW, OM.lineW] y (W.alloc (.cells ([OM.cmdW, OM.lineW].map strV).toArray 9)) (by decide) (StrAt.lit W _ _) :
                Calls Tryd.prog 52 #[strV y, .slice (some ⟨g, 0, none⟩) 2 2] (W.alloc (.cells ([OM.cmdW, OM.lineW].map strV).toArray 9)) fun e w' => e = .returned (.int .i64 (OM.idx [OM.cmdW, OM.lineW] y)) ∧ (W.alloc (.cells ([OM.cmdW, OM.lineW].map strV).toArray 9)) = w')
              by_cases hy1 : y = OM.cmdW
              · have hp : OM.parse L = OM.rg 7 1 1 0 ⟨7, 0, 0, []⟩ q := by rw [hxw _ hz.out, hy1]; exact OM.rg_break OM.cmdW (.inl rfl) q
                rw [hy1, idx_cmd] at hin
                rw [hy1] at yw
                replace hin := Lib.hid hin
                have hyl : (OM.cmdW == [108, 105, 110, 101]) = false := by decide
                clear hx hxw hlen
                rcases i3 with i3 | i3
                · obtain rfl : c9 = 1 := by omega
                  obtain rfl : n9 = 1 := by omega
                  obtain rfl : q = [] := List.length_eq_zero_iff.1 hql
                  have hs := Lib.hid (fun w7 (hb7 : Below Y.heap.size Y w7) => sw_mk (L := L) (w := w) (H := H) (X := w7) (may := 1) (must := 1) (k := 7) (n := 0) (m := 0) (s := []) (rs := []) (a := some ⟨b, o, none⟩) (c := 0) (nn := 0) rfl _ _ _ _ (by omega) (by omega) hp (by simp) (StrAt.nil _ _ _) (fun i h => by simp at h) (yK.out.below hb7) (yN.out.below hb7) (yO.out.below hb7) (bl_trans yB.out hb7) lz)
                  clear hp hstq hqx
                  go_wp2_with (go_at_call 52; refine (hin.out _ _ (by simp)).mono ?_; rintro e w7 ⟨rfl, hw7⟩; have hb7 : Below Y.heap.size Y w7 := hw7 ▸ bl_alloc (Below.refl _ _) _; have zK := yK.out.below hb7; have zN := yN.out.below hb7; have zO := yO.out.below hb7; have dK := cells4 zK; have dK' := free4 zK; have dN := cells4 zN; have dO := cells4 zO; have dO' := free4 zO; have yw7 := (hb7.cell (p := ⟨b, o, none⟩) lb).trans yw; have lz7 := zK.lt; replace zK := Lib.hid zK; replace zN := Lib.hid zN; replace zO := Lib.hid zO; replace hb7 := Lib.hid hb7; clear hw7)
                  go_meet
                  exact hs.out _ hb7.out
                · have hs := Lib.hid (fun w7 (hb7 : Below Y.heap.size Y w7) => sw_mk (L := L) (w := w) (H := H) (X := w7) (may := 1) (must := 1) (k := 7) (n := 0) (m := 0) (s := []) (rs := q) (a := some ⟨b, o + 1, none⟩) (c := c9 - 1) (nn := n9 - 1) hql _ _ _ _ (by omega) (by omega) hp hq1 (hstq.out.below hb7) hqx.out (yK.out.below hb7) (yN.out.below hb7) (yO.out.below hb7) (bl_trans yB.out hb7) lz)
                  clear hp hstq hqx hql
                  go_wp2_with (go_at_call 52; refine (hin.out _ _ (by simp)).mono ?_; rintro e w7 ⟨rfl, hw7⟩; have hb7 : Below Y.heap.size Y w7 := hw7 ▸ bl_alloc (Below.refl _ _) _; have zK := yK.out.below hb7; have zN := yN.out.below hb7; have zO := yO.out.below hb7; have dK := cells4 zK; have dK' := free4 zK; have dN := cells4 zN; have dO := cells4 zO; have dO' := free4 zO; have yw7 := (hb7.cell (p := ⟨b, o, none⟩) lb).trans yw; have lz7 := zK.lt; replace zK := Lib.hid zK; replace zN := Lib.hid zN; replace zO := Lib.hid zO; replace hb7 := Lib.hid hb7; clear hw7)
                  go_meet
                  exact hs.out _ hb7.out
              · by_cases hy2 : y = OM.lineW
                · have hp : OM.parse L = OM.rg 7 1 1 0 ⟨7, 0, 1, []⟩ q := by rw [hxw _ hz.out, hy2]; exact OM.rg_break OM.lineW (.inr rfl) q
                  rw [hy2, idx_line] at hin
                  rw [hy2] at yw
                  replace hin := Lib.hid hin
                  have hyl : (OM.lineW == [108, 105, 110, 101]) = true := by decide
                  clear hx hxw hlen hy1
                  rcases i3 with i3 | i3
                  · obtain rfl : c9 = 1 := by omega
                    obtain rfl : n9 = 1 := by omega
                    obtain rfl : q = [] := List.length_eq_zero_iff.1 hql
                    have hs := Lib.hid (fun w7 (hb7 : Below Y.heap.size Y w7) => sw_mk (L := L) (w := w) (H := H) (X := (w7.setCell ⟨H, 2, none⟩ (.int .i64 1))) (may := 1) (must := 1) (k := 7) (n := 0) (m := 1) (s := []) (rs := []) (a := some ⟨b, o, none⟩) (c := 0) (nn := 0) rfl _ _ _ _ (by omega) (by omega) hp (by simp) (StrAt.nil _ _ _) (fun i h => by simp at h) ((yK.out.below hb7).set 2 _) ((yN.out.below hb7).set_other (p := ⟨H, 2, none⟩) (by simp; omega) _) ((yO.out.below hb7).set_other (p := ⟨H, 2, none⟩) (by simp; omega) _) ((bl_trans yB.out hb7).setCell (p := ⟨H, 2, none⟩) (by simp; omega) _) lz)
                    clear hp hstq hqx
                    go_wp2_with (go_at_call 52; refine (hin.out _ _ (by simp)).mono ?_; rintro e w7 ⟨rfl, hw7⟩; have hb7 : Below Y.heap.size Y w7 := hw7 ▸ bl_alloc (Below.refl _ _) _; have zK := yK.out.below hb7; have zN := yN.out.below hb7; have zO := yO.out.below hb7; have dK := cells4 zK; have dK' := free4 zK; have dN := cells4 zN; have dO := cells4 zO; have dO' := free4 zO; have yw7 := (hb7.cell (p := ⟨b, o, none⟩) lb).trans yw; have lz7 := zK.lt; replace zK := Lib.hid zK; replace zN := Lib.hid zN; replace zO := Lib.hid zO; replace hb7 := Lib.hid hb7; clear hw7)
                    go_meet
                    exact hs.out _ hb7.out
                  · have hs := Lib.hid (fun w7 (hb7 : Below Y.heap.size Y w7) => sw_mk (L := L) (w := w) (H := H) (X := (w7.setCell ⟨H, 2, none⟩ (.int .i64 1))) (may := 1) (must := 1) (k := 7) (n := 0) (m := 1) (s := []) (rs := q) (a := some ⟨b, o + 1, none⟩) (c := c9 - 1) (nn := n9 - 1) hql _ _ _ _ (by omega) (by omega) hp hq1 (strAt_set (hstq.out.below hb7) _ _) hqx.out ((yK.out.below hb7).set 2 _) ((yN.out.below hb7).set_other (p := ⟨H, 2, none⟩) (by simp; omega) _) ((yO.out.below hb7).set_other (p := ⟨H, 2, none⟩) (by simp; omega) _) ((bl_trans yB.out hb7).setCell (p := ⟨H, 2, none⟩) (by simp; omega) _) lz)
                    clear hp hstq hqx hql
                    go_wp2_with (go_at_call 52; refine (hin.out _ _ (by simp)).mono ?_; rintro e w7 ⟨rfl, hw7⟩; have hb7 : Below Y.heap.size Y w7 := hw7 ▸ bl_alloc (Below.refl _ _) _; have zK := yK.out.below hb7; have zN := yN.out.below hb7; have zO := yO.out.below hb7; have dK := cells4 zK; have dK' := free4 zK; have dN := cells4 zN; have dO := cells4 zO; have dO' := free4 zO; have yw7 := (hb7.cell (p := ⟨b, o, none⟩) lb).trans yw; have lz7 := zK.lt; replace zK := Lib.hid zK; replace zN := Lib.hid zN; replace zO := Lib.hid zO; replace hb7 := Lib.hid hb7; clear hw7)
                    go_meet
                    exact hs.out _ hb7.out
                · have hp : OM.parse L = (OM.none, 9) := by rw [hxw _ hz.out]; exact OM.break_not y (fun h => h.elim hy1 hy2) q
                  rw [idx_none hy1 hy2] at hin
                  replace hp := Lib.hid hp
                  replace hin := Lib.hid hin
                  clear hx hxw hlen hy1 hy2 i3 hstq hqx hql
                  go_wp2_with (go_at_call 52; refine (hin.out _ _ (by simp)).mono ?_; rintro e w7 ⟨rfl, hw7⟩; have hb7 : Below Y.heap.size Y w7 := hw7 ▸ bl_alloc (Below.refl _ _) _; have zK := yK.out.below hb7; have zN := yN.out.below hb7; have zO := yO.out.below hb7; have dK := cells4 zK; have dK' := free4 zK; have dN := cells4 zN; have dO := cells4 zO; have dO' := free4 zO; have yw7 := (hb7.cell (p := ⟨b, o, none⟩) lb).trans yw; have lz7 := zK.lt; replace zK := Lib.hid zK; replace zN := Lib.hid zN; replace zO := Lib.hid zO; replace hb7 := Lib.hid hb7; clear hw7)
                  exact hret.out _ _ _ _ _ _ _ _ _ _ _ _ _ hp.out zO.out (bl_trans yB.out hb7.out)
          · have hx : x = OM.watchW := by have := hget.out 8 rfl; injection this with this; exact this.symm
            skip
            cases r with
            | nil =>
              have hp : OM.parse L = (OM.none, 9) := OM.watch_one L (by rw [hz.out, hx])
              obtain rfl : n9 = 0 := by have := hrl.out; simpa using this.symm
              replace hp := Lib.hid hp
              clear hx
              go_wp2_with fail
              exact hret.out _ _ _ _ _ _ _ _ _ _ _ _ _ hp.out yO.out yB.out
            | cons y q =>
              obtain ⟨i0, p, hp, h1, h2, h3, h4, h5, h6⟩ := OM.watch_at (L := L) (y := y) (r := q) (by rw [hz.out, hx])
              have hn90 : 0 < n9 := by have := hrl.out; simp only [List.length_cons] at this; omega
              have hn92 : ((n9 : Int) == 0) = false := by simp; omega
              replace hp := Lib.hid hp
              replace h3 := Lib.hid h3
              replace h4 := Lib.hid h4
              replace h5 := Lib.hid h5
              replace h6 := Lib.hid h6
              clear hx hlen
              go_wp2_with fail
              go_loopg [12] i0 (fun gh i wr => ∃ j : Nat, gh = i0 - j ∧ i = .int .i64 (j : Int) ∧ j ≤ i0 ∧ Y = wr)
              case atStart => exact ⟨0, rfl, rfl, by omega, rfl⟩
              case round =>
                obtain ⟨j, rfl, rfl, hj, rfl⟩ := hrel
                have hjL : j < L.length := by omega
                have hby := ba_at hjL (by rw [ba_size]; exact hjL)
                by_cases hlt : j < i0
                · have hc := h3.out j hjL hlt
                  have qb : (((⟨L.toArray⟩ : ByteArray)[j]'(by rw [ba_size]; exact hjL)).toNat : Int) = 32 := by rw [hby, hc]; rfl
                  clear hby hc
                  go_wp2_with fail
                  all_goals go_roundg (i0 - (j + 1))
                  case measure => omega
                  case rel => exact ⟨j + 1, rfl, by go_num, by omega, rfl⟩
                · obtain rfl : j = i0 := by omega
                  have hc := h4.out hjL
                  have qb : ((((⟨L.toArray⟩ : ByteArray)[j]'(by rw [ba_size]; exact hjL)).toNat : Int) == 32) = false := by
                    rw [hby]; simp only [beq_eq_false_iff_ne, ne_eq]; intro e; exact hc (UInt8.toNat_inj.1 (by rw [show (32 : UInt8).toNat = 32 from rfl]; omega))
                  clear hby hc
                  go_wp2_with fail
                  go_loopg [12] (p - (j + 5)) (fun gh i wr => ∃ j2 : Nat, gh = p - j2 ∧ i = .int .i64 (j2 : Int) ∧ j + 5 ≤ j2 ∧ j2 ≤ p ∧ Y = wr)
                  case atStart => exact ⟨j + 5, rfl, by go_num, by omega, by omega, rfl⟩
                  case round =>
                    obtain ⟨j2, rfl, rfl, hj2, hj3, rfl⟩ := hrel
                    have hjL2 : j2 < L.length := by omega
                    have hby := ba_at hjL2 (by rw [ba_size]; exact hjL2)
                    clear qb
                    by_cases hlt2 : j2 < p
                    · have hc := h5.out j2 hjL2 hj2 hlt2
                      have qb : (((⟨L.toArray⟩ : ByteArray)[j2]'(by rw [ba_size]; exact hjL2)).toNat : Int) = 32 := by rw [hby, hc]; rfl
                      clear hby hc
                      go_wp2_with fail
                      all_goals go_roundg (p - (j2 + 1))
                      case measure => omega
                      case rel => exact ⟨j2 + 1, rfl, by go_num, by omega, by omega, rfl⟩
                    · obtain rfl : j2 = p := by omega
                      have hc := h6.out hjL2
                      have qb : ((((⟨L.toArray⟩ : ByteArray)[j2]'(by rw [ba_size]; exact hjL2)).toNat : Int) == 32) = false := by
                        rw [hby]; simp only [beq_eq_false_iff_ne, ne_eq]; intro e; exact hc (UInt8.toNat_inj.1 (by rw [show (32 : UInt8).toNat = 32 from rfl]; omega))
                      have hle : j2 ≤ L.length := by omega
                      clear hby hc
                      go_wp2_with fail
                      rw [show Value.string ((⟨L.toArray⟩ : ByteArray).extract j2 L.length) = strV (L.drop j2) from by rw [ext_list, List.take_of_length_le (by simp)]]
                      exact hret.out _ _ _ _ _ _ _ _ _ _ _ _ _ hp.out (yO.out.set_other (p := ⟨H, 3, none⟩) (by simp; omega) _) (yB.out.setCell (p := ⟨H, 3, none⟩) (by simp; omega) _)
          · have hx : x = [100, 101, 108, 101, 116, 101] := by have := hget.out 9 rfl; injection this with this; exact this.symm
            have hp : OM.parse L = OM.rg 9 1 1 0 ⟨9, 0, 0, []⟩ r := by rw [OM.parse_W hz.out (by rw [hx]; decide), hx]; show OM.fin (OM.read (9, true, false, false) r) = _; exact OM.rg_one 9 (by omega) r
            have hs := Lib.hid (sw.out Y 1 1 9 0 0 [] _ _ _ _ (by omega) (by omega) hp (hrl.out ▸ hn1) hst9.out hlen.out yK.out yN.out yO.out yB.out lz)
            clear hx hp
            go_wp2_with fail
            go_meet
            exact hs.out
          · have hx : x = [101, 110, 97, 98, 108, 101] := by have := hget.out 10 rfl; injection this with this; exact this.symm
            have hp : OM.parse L = OM.rg 10 1 1 0 ⟨10, 0, 0, []⟩ r := by rw [OM.parse_W hz.out (by rw [hx]; decide), hx]; show OM.fin (OM.read (10, true, false, false) r) = _; exact OM.rg_one 10 (by omega) r
            have hs := Lib.hid (sw.out Y 1 1 10 0 0 [] _ _ _ _ (by omega) (by omega) hp (hrl.out ▸ hn1) hst9.out hlen.out yK.out yN.out yO.out yB.out lz)
            clear hx hp
            go_wp2_with fail
            go_meet
            exact hs.out
          · have hx : x = [100, 105, 115, 97, 98, 108, 101] := by have := hget.out 11 rfl; injection this with this; exact this.symm
            have hp : OM.parse L = OM.rg 11 1 1 0 ⟨11, 0, 0, []⟩ r := by rw [OM.parse_W hz.out (by rw [hx]; decide), hx]; show OM.fin (OM.read (11, true, false, false) r) = _; exact OM.rg_one 11 (by omega) r
            have hs := Lib.hid (sw.out Y 1 1 11 0 0 [] _ _ _ _ (by omega) (by omega) hp (hrl.out ▸ hn1) hst9.out hlen.out yK.out yN.out yO.out yB.out lz)
            clear hx hp
            go_wp2_with fail
            go_meet
            exact hs.out
          · have hx : x = [115, 116, 111, 112, 115] := by have := hget.out 12 rfl; injection this with this; exact this.symm
            have hp : OM.parse L = OM.rg 12 0 0 0 ⟨12, 0, 0, []⟩ r := by rw [OM.parse_W hz.out (by rw [hx]; decide), hx]; show OM.fin (OM.read (12, false, false, false) r) = _; exact OM.rg_none 12 r
            have hs := Lib.hid (sw.out Y 0 0 12 0 0 [] _ _ _ _ (by omega) (by omega) hp (hrl.out ▸ hn1) hst9.out hlen.out yK.out yN.out yO.out yB.out lz)
            clear hx hp
            go_wp2_with fail
            go_meet
            exact hs.out
          · have hx : x = [108, 105, 115, 116] := by have := hget.out 13 rfl; injection this with this; exact this.symm
            have hp : OM.parse L = OM.rg 13 2 0 0 ⟨13, 0, 200, []⟩ r := by rw [OM.parse_W hz.out (by rw [hx]; decide), hx]; show OM.fin (OM.list r) = _; exact OM.rg_list r
            have hs := Lib.hid (sw.out (Y.setCell ⟨H, 2, none⟩ (.int .i64 200)) 2 0 13 0 200 [] _ _ _ _ (by omega) (by omega) hp (hrl.out ▸ hn1) (strAt_set hst9.out _ _) hlen.out (yK.out.set 2 _) (yN.out.set_other (p := ⟨H, 2, none⟩) (by simp; omega) _) (yO.out.set_other (p := ⟨H, 2, none⟩) (by simp; omega) _) (yB.out.setCell (p := ⟨H, 2, none⟩) (by simp; omega) _) lz)
            clear hx hp
            go_wp2_with fail
            go_meet
            exact hs.out
          · have hx : x = OM.showW := by have := hget.out 14 rfl; injection this with this; exact this.symm
            have hxw : ∀ rs, OM.W L = x :: rs → OM.parse L = OM.rest1 OM.showW rs := fun rs h => by rw [OM.parse_W h (by rw [hx]; decide), hx]
            cases r with
            | nil =>
              have hp : OM.parse L = (OM.none, 9) := hxw [] hz.out
              obtain rfl : n9 = 0 := by have := hrl.out; simpa using this.symm
              replace hp := Lib.hid hp
              clear hx
              go_wp2_with fail
              exact hret.out _ _ _ _ _ _ _ _ _ _ _ _ _ hp.out yO.out yB.out
            | cons y q =>
              obtain ⟨b, o, rfl, yw⟩ := hst9.out.nth (i := 0) (by simp)
              simp only [Nat.add_zero, List.getElem_cons_zero] at yw
              have lb : b < Y.heap.size := World.block_lt_of_cell? Y _ yw
              have lb1 : b < Y.heap.size + 1 := by omega
              have lH1 : H < Y.heap.size + 1 := by omega
              have lN1 : w.heap.size + 1 < Y.heap.size := yN.out.lt
              have lO1 : w.heap.size < Y.heap.size := yO.out.lt
              have hql : q.length = n9 - 1 := by have := hrl.out; simp only [List.length_cons] at this; omega
              have hn90 : 0 < n9 := by have := hrl.out; simp only [List.length_cons] at this; omega
              have hn91 : (0 : Int) < n9 := by omega
              have hn92 : ((n9 : Int) == 0) = false := by simp; omega
              have hn93 : (1 : Int) ≤ n9 := by omega
              have hn94 : (n9 : Int) ≤ c9 := by omega
              have j0 : (0 : Int) ≤ 1 := by omega
              have hq1 : q.length ≤ 100000 := by omega
              have hy : y.length ≤ 1000000 := hlen.out 0 (by simp)
              have hqx : ∀ i (h : i < q.length), (q[i]).length ≤ 1000000 := fun i h => by have := hlen.out (i + 1) (by simp; omega); simpa using this
              have hstq := Lib.hid (strAt_tail hst9.out)
              have i3 : c9 - 1 = 0 ∨ c9 - 1 ≠ 0 := by omega
              replace hqx := Lib.hid hqx
              replace hlen := Lib.hid True.intro
              have hin := fun (W : World) (g : Nat) (hg : g = W.heap.size) => (by
                subst hg
                exact in_any29 (some ⟨W.heap.size, 0, none⟩) 8 OM.shownW y (W.alloc (.cells (OM.shownW.map strV).toArray 9)) (by decide) (StrAt.lit W _ _) :
                Calls Tryd.prog 52 #[strV y, .slice (some ⟨g, 0, none⟩) 8 8] (W.alloc (.cells (OM.shownW.map strV).toArray 9)) fun e w' => e = .returned (.int .i64 (OM.idx OM.shownW y)) ∧ (W.alloc (.cells (OM.shownW.map strV).toArray 9)) = w')
              by_cases hy1 : y ∈ OM.shownW
              · have hp : OM.parse L = OM.rg 14 0 0 0 ⟨14, 0, 0, y⟩ q := by rw [hxw _ hz.out]; exact OM.rg_show y hy1 q
                have hi0 := idx_ge.2 hy1
                obtain ⟨ii, hii⟩ : ∃ ii, OM.idx OM.shownW y = ii := ⟨_, rfl⟩
                rw [hii] at hin hi0
                have hi1 : decide (ii < 0) = false := by rw [decide_eq_false_iff_not]; omega
                replace hin := Lib.hid hin
                clear hx hxw hlen hy1 hii hi0
                rcases i3 with i3 | i3
                · obtain rfl : c9 = 1 := by omega
                  obtain rfl : n9 = 1 := by omega
                  obtain rfl : q = [] := List.length_eq_zero_iff.1 hql
                  have hs := Lib.hid (fun w7 (hb7 : Below Y.heap.size Y w7) => sw_mk (L := L) (w := w) (H := H) (X := (w7.setCell ⟨H, 3, none⟩ (strV y))) (may := 0) (must := 0) (k := 14) (n := 0) (m := 0) (s := y) (rs := []) (a := some ⟨b, o, none⟩) (c := 0) (nn := 0) rfl _ _ _ _ (by omega) (by omega) hp (by simp) (StrAt.nil _ _ _) (fun i h => by simp at h) ((yK.out.below hb7).set 3 _) ((yN.out.below hb7).set_other (p := ⟨H, 3, none⟩) (by simp; omega) _) ((yO.out.below hb7).set_other (p := ⟨H, 3, none⟩) (by simp; omega) _) ((bl_trans yB.out hb7).setCell (p := ⟨H, 3, none⟩) (by simp; omega) _) lz)
                  clear hp hstq hqx
                  go_wp2_with (go_at_call 52; refine (hin.out _ _ (by simp)).mono ?_; rintro e w7 ⟨rfl, hw7⟩; have hb7 : Below Y.heap.size Y w7 := hw7 ▸ bl_alloc (Below.refl _ _) _; have zK := yK.out.below hb7; have zN := yN.out.below hb7; have zO := yO.out.below hb7; have dK := cells4 zK; have dK' := free4 zK; have dN := cells4 zN; have dO := cells4 zO; have dO' := free4 zO; have yw7 := (hb7.cell (p := ⟨b, o, none⟩) lb).trans yw; have lz7 := zK.lt; replace zK := Lib.hid zK; replace zN := Lib.hid zN; replace zO := Lib.hid zO; replace hb7 := Lib.hid hb7; clear hw7)
                  go_meet
                  exact hs.out _ hb7.out
                · have hs := Lib.hid (fun w7 (hb7 : Below Y.heap.size Y w7) => sw_mk (L := L) (w := w) (H := H) (X := (w7.setCell ⟨H, 3, none⟩ (strV y))) (may := 0) (must := 0) (k := 14) (n := 0) (m := 0) (s := y) (rs := q) (a := some ⟨b, o + 1, none⟩) (c := c9 - 1) (nn := n9 - 1) hql _ _ _ _ (by omega) (by omega) hp hq1 (strAt_set (hstq.out.below hb7) _ _) hqx.out ((yK.out.below hb7).set 3 _) ((yN.out.below hb7).set_other (p := ⟨H, 3, none⟩) (by simp; omega) _) ((yO.out.below hb7).set_other (p := ⟨H, 3, none⟩) (by simp; omega) _) ((bl_trans yB.out hb7).setCell (p := ⟨H, 3, none⟩) (by simp; omega) _) lz)
                  clear hp hstq hqx hql
                  go_wp2_with (go_at_call 52; refine (hin.out _ _ (by simp)).mono ?_; rintro e w7 ⟨rfl, hw7⟩; have hb7 : Below Y.heap.size Y w7 := hw7 ▸ bl_alloc (Below.refl _ _) _; have zK := yK.out.below hb7; have zN := yN.out.below hb7; have zO := yO.out.below hb7; have dK := cells4 zK; have dK' := free4 zK; have dN := cells4 zN; have dO := cells4 zO; have dO' := free4 zO; have yw7 := (hb7.cell (p := ⟨b, o, none⟩) lb).trans yw; have lz7 := zK.lt; replace zK := Lib.hid zK; replace zN := Lib.hid zN; replace zO := Lib.hid zO; replace hb7 := Lib.hid hb7; clear hw7)
                  go_meet
                  exact hs.out _ hb7.out
              · have hp : OM.parse L = (OM.none, 9) := by rw [hxw _ hz.out]; exact OM.show_not y hy1 q
                have hi0 := fun h => hy1 (idx_ge.1 h)
                obtain ⟨ii, hii⟩ : ∃ ii, OM.idx OM.shownW y = ii := ⟨_, rfl⟩
                rw [hii] at hin hi0
                have hi1 : decide (ii < 0) = true := by rw [decide_eq_true_eq]; exact Int.not_le.1 hi0
                replace hp := Lib.hid hp
                replace hin := Lib.hid hin
                clear hx hxw hlen hy1 hii hi0 i3 hstq hqx hql
                go_wp2_with (go_at_call 52; refine (hin.out _ _ (by simp)).mono ?_; rintro e w7 ⟨rfl, hw7⟩; have hb7 : Below Y.heap.size Y w7 := hw7 ▸ bl_alloc (Below.refl _ _) _; have zK := yK.out.below hb7; have zN := yN.out.below hb7; have zO := yO.out.below hb7; have dK := cells4 zK; have dK' := free4 zK; have dN := cells4 zN; have dO := cells4 zO; have dO' := free4 zO; have yw7 := (hb7.cell (p := ⟨b, o, none⟩) lb).trans yw; have lz7 := zK.lt; replace zK := Lib.hid zK; replace zN := Lib.hid zN; replace zO := Lib.hid zO; replace hb7 := Lib.hid hb7; clear hw7)
                exact hret.out _ _ _ _ _ _ _ _ _ _ _ _ _ hp.out zO.out (bl_trans yB.out hb7.out)
          · have hx : x = [111, 117, 116] := by have := hget.out 15 rfl; injection this with this; exact this.symm
            have hp : OM.parse L = OM.rg 15 0 0 0 ⟨15, 0, 0, []⟩ r := by rw [OM.parse_W hz.out (by rw [hx]; decide), hx]; show OM.fin (OM.read (15, false, false, false) r) = _; exact OM.rg_none 15 r
            have hs := Lib.hid (sw.out Y 0 0 15 0 0 [] _ _ _ _ (by omega) (by omega) hp (hrl.out ▸ hn1) hst9.out hlen.out yK.out yN.out yO.out yB.out lz)
            clear hx hp
            go_wp2_with fail
            go_meet
            exact hs.out
          · have hx : x = OM.fileW := by have := hget.out 16 rfl; injection this with this; exact this.symm
            have hxw : ∀ rs, OM.W L = x :: rs → OM.parse L = OM.rest1 OM.fileW rs := fun rs h => by rw [OM.parse_W h (by rw [hx]; decide), hx]
            cases r with
            | nil =>
              have hp : OM.parse L = (OM.none, 9) := hxw [] hz.out
              obtain rfl : n9 = 0 := by have := hrl.out; simpa using this.symm
              replace hp := Lib.hid hp
              clear hx
              go_wp2_with fail
              exact hret.out _ _ _ _ _ _ _ _ _ _ _ _ _ hp.out yO.out yB.out
            | cons y q =>
              obtain ⟨b, o, rfl, yw⟩ := hst9.out.nth (i := 0) (by simp)
              simp only [Nat.add_zero, List.getElem_cons_zero] at yw
              have lb : b < Y.heap.size := World.block_lt_of_cell? Y _ yw
              have lb1 : b < Y.heap.size + 1 := by omega
              have lH1 : H < Y.heap.size + 1 := by omega
              have lN1 : w.heap.size + 1 < Y.heap.size := yN.out.lt
              have lO1 : w.heap.size < Y.heap.size := yO.out.lt
              have hql : q.length = n9 - 1 := by have := hrl.out; simp only [List.length_cons] at this; omega
              have hn90 : 0 < n9 := by have := hrl.out; simp only [List.length_cons] at this; omega
              have hn91 : (0 : Int) < n9 := by omega
              have hn92 : ((n9 : Int) == 0) = false := by simp; omega
              have hn93 : (1 : Int) ≤ n9 := by omega
              have hn94 : (n9 : Int) ≤ c9 := by omega
              have j0 : (0 : Int) ≤ 1 := by omega
              have hq1 : q.length ≤ 100000 := by omega
              have hy : y.length ≤ 1000000 := hlen.out 0 (by simp)
              have hqx : ∀ i (h : i < q.length), (q[i]).length ≤ 1000000 := fun i h => by have := hlen.out (i + 1) (by simp; omega); simpa using this
              have hstq := Lib.hid (strAt_tail hst9.out)
              have i3 : c9 - 1 = 0 ∨ c9 - 1 ≠ 0 := by omega
              replace hqx := Lib.hid hqx
              replace hlen := Lib.hid True.intro
              have hnm := fun (W : World) => rname_any y W (by omega)
              cases hy1 : OM.isName y with
              | true =>
                have hp : OM.parse L = OM.rg 16 0 0 0 ⟨16, 0, 0, y⟩ q := by rw [hxw _ hz.out]; exact OM.rg_file y hy1 q
                rw [hy1] at hnm
                replace hnm := Lib.hid hnm
                clear hx hxw hlen hy1
                rcases i3 with i3 | i3
                · obtain rfl : c9 = 1 := by omega
                  obtain rfl : n9 = 1 := by omega
                  obtain rfl : q = [] := List.length_eq_zero_iff.1 hql
                  have hs := Lib.hid (sw_mk (L := L) (w := w) (H := H) (X := (Y.setCell ⟨H, 3, none⟩ (strV y))) (may := 0) (must := 0) (k := 16) (n := 0) (m := 0) (s := y) (rs := []) (a := some ⟨b, o, none⟩) (c := 0) (nn := 0) rfl _ _ _ _ (by omega) (by omega) hp (by simp) (StrAt.nil _ _ _) (fun i h => by simp at h) (yK.out.set 3 _) (yN.out.set_other (p := ⟨H, 3, none⟩) (by simp; omega) _) (yO.out.set_other (p := ⟨H, 3, none⟩) (by simp; omega) _) (yB.out.setCell (p := ⟨H, 3, none⟩) (by simp; omega) _) lz)
                  clear hp hstq hqx
                  go_wp2_with (go_at_call 53; refine (hnm.out _).mono ?_; rintro e w7 ⟨rfl, rfl⟩)
                  go_meet
                  exact hs.out
                · have hs := Lib.hid (sw_mk (L := L) (w := w) (H := H) (X := (Y.setCell ⟨H, 3, none⟩ (strV y))) (may := 0) (must := 0) (k := 16) (n := 0) (m := 0) (s := y) (rs := q) (a := some ⟨b, o + 1, none⟩) (c := c9 - 1) (nn := n9 - 1) hql _ _ _ _ (by omega) (by omega) hp hq1 (strAt_set hstq.out _ _) hqx.out (yK.out.set 3 _) (yN.out.set_other (p := ⟨H, 3, none⟩) (by simp; omega) _) (yO.out.set_other (p := ⟨H, 3, none⟩) (by simp; omega) _) (yB.out.setCell (p := ⟨H, 3, none⟩) (by simp; omega) _) lz)
                  clear hp hstq hqx hql
                  go_wp2_with (go_at_call 53; refine (hnm.out _).mono ?_; rintro e w7 ⟨rfl, rfl⟩)
                  go_meet
                  exact hs.out
              | false =>
                have hp : OM.parse L = (OM.none, 4) := by rw [hxw _ hz.out]; exact OM.file_not y hy1 q
                rw [hy1] at hnm
                replace hp := Lib.hid hp
                replace hnm := Lib.hid hnm
                clear hx hxw hlen hy1 i3 hstq hqx hql
                go_wp2_with (go_at_call 53; refine (hnm.out _).mono ?_; rintro e w7 ⟨rfl, rfl⟩)
                exact hret.out _ _ _ _ _ _ _ _ _ _ _ _ _ hp.out yO.out yB.out
          · have hx : x = [119, 104, 101, 114, 101] := by have := hget.out 17 rfl; injection this with this; exact this.symm
            have hp : OM.parse L = OM.rg 17 0 0 0 ⟨17, 0, 0, []⟩ r := by rw [OM.parse_W hz.out (by rw [hx]; decide), hx]; show OM.fin (OM.read (17, false, false, false) r) = _; exact OM.rg_none 17 r
            have hs := Lib.hid (sw.out Y 0 0 17 0 0 [] _ _ _ _ (by omega) (by omega) hp (hrl.out ▸ hn1) hst9.out hlen.out yK.out yN.out yO.out yB.out lz)
            clear hx hp
            go_wp2_with fail
            go_meet
            exact hs.out
        case rest =>
          clear cK fK cN cO fO yK yN yO hst9 hrl yB hxs lH hn1 lz lz2
          obtain ⟨may, must, n2, m2, s2, rs, a2, c2, rfl, rfl, rfl, hmay, hmust, hp, hst, hl, hlx, hBO, hBN, ⟨y0, y1, y2, y3, hBR⟩, hB, hH1⟩ := hcut
          replace hst := Lib.hid hst
          replace hlx := Lib.hid hlx
          replace hp := Lib.hid hp
          replace hBO := Lib.hid hBO
          replace hBN := Lib.hid hBN
          replace hB := Lib.hid hB
          go_wp2_with fail
          go_loopg [13] rs.length (fun gh i wr => LpR L w H kk may must s2 rs a2 gh i wr)
          case atStart => exact ⟨0, n2, m2, rfl, rfl, by omega, by simpa using hp.out, hBO.out, hBN.out, ⟨_, _, _, _, hBR⟩, hB.out, hst.out⟩
          case round =>
            clear hBO hBN hBR hB hst hp
            obtain ⟨j, nj, mj, rfl, rfl, hj, hp, hBO, hBN, ⟨z0, z1, z2, z3, hBR⟩, hB, hst⟩ := hrel
            have cO := cells4 hBO
            have fO := free4 hBO
            have cN := cells4 hBN
            have cR := cells4 hBR
            have fR := free4 hBR
            have lO := hBO.lt
            have lN := hBN.lt
            replace hBO := Lib.hid hBO
            replace hBN := Lib.hid hBN
            replace hBR := Lib.hid hBR
            replace hB := Lib.hid hB
            by_cases hlt : j < rs.length
            · obtain ⟨b, o, rfl, xw⟩ := hst.nth hlt
              have lx : b < wr.heap.size := World.block_lt_of_cell? wr _ xw
              have hxl := hlx.out j hlt
              rw [List.drop_eq_getElem_cons hlt, OM.rg] at hp
              replace hst := Lib.hid hst
              generalize hxj : rs[j] = xj at *
              by_cases hmj : may ≤ j
              · rw [if_pos hmj] at hp
                replace hp := Lib.hid hp
                have q1 : decide (may ≤ j) = true := by simpa using hmj
                go_wp2_with fail
                exact hret.out _ _ _ _ _ _ _ _ _ _ _ _ _ hp.out hBR.out hB.out
              · rw [if_neg hmj] at hp
                have q1 : decide (may ≤ j) = false := by simpa using hmj
                have hnum := fun (W : World) => rnumber_any xj W hxl
                obtain ⟨⟨xn, xe⟩, hq⟩ : ∃ q, OM.num xj = q := ⟨_, rfl⟩
                rw [hq] at hnum hp
                simp only at hnum hp
                replace hnum := Lib.hid hnum
                replace hq := Lib.hid hq
                clear hmj
                have arm := 0
                clear arm
                by_cases he : xe = 0
                · subst he
                  rw [if_neg (by simp)] at hp
                  clear hlx cN cR fR
                  by_cases hk4 : kk ≤ 4
                  · have q3 : decide (kk ≤ 4) = true := by simpa using hk4
                    by_cases hx1 : xn < 1
                    · rw [if_pos ⟨hk4, .inl hx1⟩] at hp
                      replace hp := Lib.hid hp
                      have q4 : decide (xn < 1) = true := by simpa using hx1
                      clear hk4 hx1
                      go_wp2_with (go_at_call 54; refine (hnum.out _).mono ?_; rintro e w6 ⟨rfl, hb6⟩; have gN := hBN.out.below hb6; have gR := hBR.out.below hb6; have gB := bl_trans hB.out hb6; have d0 := cells4 gN; have d1 := cells4 gR; have d2 := free4 gR; replace gN := Lib.hid gN; replace gR := Lib.hid gR; replace gB := Lib.hid gB; clear hb6)
                      exact hret.out _ _ _ _ _ _ _ _ _ _ _ _ _ hp.out gR.out gB.out
                    · have q4 : decide (xn < 1) = false := by simpa using hx1
                      by_cases hx2 : 100000 < xn
                      · rw [if_pos ⟨hk4, .inr hx2⟩] at hp
                        replace hp := Lib.hid hp
                        have q5 : decide (100000 < xn) = true := by simpa using hx2
                        clear hk4 hx1 hx2
                        go_wp2_with (go_at_call 54; refine (hnum.out _).mono ?_; rintro e w6 ⟨rfl, hb6⟩; have gN := hBN.out.below hb6; have gR := hBR.out.below hb6; have gB := bl_trans hB.out hb6; have d0 := cells4 gN; have d1 := cells4 gR; have d2 := free4 gR; replace gN := Lib.hid gN; replace gR := Lib.hid gR; replace gB := Lib.hid gB; clear hb6)
                        exact hret.out _ _ _ _ _ _ _ _ _ _ _ _ _ hp.out gR.out gB.out
                      · rw [if_neg (fun h => h.2.elim hx1 hx2)] at hp
                        have q6 : decide (100000 < xn) = false := by simpa using hx2
                        clear hk4 hx1 hx2
                        by_cases hj0 : j = 0
                        · rw [if_pos hj0] at hp
                          have q5 : ((j : Int) == 0) = true := by simp; omega
                          have hgo := Lib.hid (fun w6 (hb6 : Below wr.heap.size wr w6) => lp_n (gh := rs.length - (j + 1)) hp hlt hH1 hBO.out hBN.out hBR.out hB.out hst.out hb6 rfl)
                          clear hp hj0
                          go_wp2_with (go_at_call 54; refine (hnum.out _).mono ?_; rintro e w6 ⟨rfl, hb6⟩; have gO := hBO.out.below hb6; have d0 := cells4 gO; have d1 := free4 gO; have lg := gO.lt; have hb7 := Lib.hid hb6; clear gO hb6)
                          all_goals go_roundg (rs.length - (j + 1))
                          case measure => omega
                          case rel => exact hgo.out _ hb7.out
                        · rw [if_neg hj0] at hp
                          have q5 : ((j : Int) == 0) = false := by simp; omega
                          have hgo := Lib.hid (fun w6 (hb6 : Below wr.heap.size wr w6) => lp_m (gh := rs.length - (j + 1)) hp hlt hH1 hBO.out hBN.out hBR.out hB.out hst.out hb6 rfl)
                          clear hp
                          go_wp2_with (go_at_call 54; refine (hnum.out _).mono ?_; rintro e w6 ⟨rfl, hb6⟩; have gO := hBO.out.below hb6; have d0 := cells4 gO; have d1 := free4 gO; have lg := gO.lt; have hb7 := Lib.hid hb6; clear gO hb6)
                          all_goals go_roundg (rs.length - (j + 1))
                          case measure => omega
                          case rel => exact hgo.out _ hb7.out
                  · have q3 : decide (kk ≤ 4) = false := by simpa using hk4
                    rw [if_neg (fun h => hk4 h.1)] at hp
                    clear hk4
                    by_cases hj0 : j = 0
                    · rw [if_pos hj0] at hp
                      have q5 : ((j : Int) == 0) = true := by simp; omega
                      have hgo := Lib.hid (fun w6 (hb6 : Below wr.heap.size wr w6) => lp_n (gh := rs.length - (j + 1)) hp hlt hH1 hBO.out hBN.out hBR.out hB.out hst.out hb6 rfl)
                      clear hp hj0
                      go_wp2_with (go_at_call 54; refine (hnum.out _).mono ?_; rintro e w6 ⟨rfl, hb6⟩; have gO := hBO.out.below hb6; have d0 := cells4 gO; have d1 := free4 gO; have lg := gO.lt; have hb7 := Lib.hid hb6; clear gO hb6)
                      all_goals go_roundg (rs.length - (j + 1))
                      case measure => omega
                      case rel => exact hgo.out _ hb7.out
                    · rw [if_neg hj0] at hp
                      have q5 : ((j : Int) == 0) = false := by simp; omega
                      have hgo := Lib.hid (fun w6 (hb6 : Below wr.heap.size wr w6) => lp_m (gh := rs.length - (j + 1)) hp hlt hH1 hBO.out hBN.out hBR.out hB.out hst.out hb6 rfl)
                      clear hp
                      go_wp2_with (go_at_call 54; refine (hnum.out _).mono ?_; rintro e w6 ⟨rfl, hb6⟩; have gO := hBO.out.below hb6; have d0 := cells4 gO; have d1 := free4 gO; have lg := gO.lt; have hb7 := Lib.hid hb6; clear gO hb6)
                      all_goals go_roundg (rs.length - (j + 1))
                      case measure => omega
                      case rel => exact hgo.out _ hb7.out
                · rw [if_pos he] at hp
                  replace hp := Lib.hid hp
                  have q2 : (xe != 0) = true := by simpa using he
                  clear he
                  go_wp2_with (go_at_call 54; refine (hnum.out _).mono ?_; rintro e w6 ⟨rfl, hb6⟩; have gN := hBN.out.below hb6; have gR := hBR.out.below hb6; have gB := bl_trans hB.out hb6; have d0 := cells4 gN; have d1 := cells4 gR; have d2 := free4 gR; replace gN := Lib.hid gN; replace gR := Lib.hid gR; replace gB := Lib.hid gB; clear hb6)
                  exact hret.out _ _ _ _ _ _ _ _ _ _ _ _ _ hp.out gR.out gB.out
            · obtain rfl : j = rs.length := by omega
              rw [List.drop_length, OM.rg] at hp
              by_cases hmu : rs.length < must
              · rw [if_pos hmu] at hp
                replace hp := Lib.hid hp
                have q1 : decide (rs.length < must) = true := by simpa using hmu
                go_wp2_with fail
                exact hret.out _ _ _ _ _ _ _ _ _ _ _ _ _ hp.out hBR.out hB.out
              · rw [if_neg hmu] at hp
                replace hp := Lib.hid hp
                have q1 : decide (rs.length < must) = false := by simpa using hmu
                go_wp2_with fail
                exact hret.out _ _ _ _ _ _ _ _ _ _ _ _ _ hp.out hBR.out hB.out
end Go.Proofs.YtjfpepinmbbnbaaDoor
