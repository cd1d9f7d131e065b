/-
  The reference's Keep, Offer; of chapter 25.
  Conditions: as each theorem states them.
-/
import Derived.Test.YtfidmpkblmebeaaSnR1
import Derived.Great.BuildSlice
namespace Go.Proofs.Ytfidmpkblmebeaa
open Go.RowKit
set_option linter.unusedVariables false
set_option linter.unusedSimpArgs false
noncomputable def snBuild (p : Array (Nat × Value)) : Sem Value := Instr.build 54 p
theorem build_sn (p : Array (Nat × Value)) : Instr.build 54 p = snBuild p := rfl
noncomputable def snSlice (p : Array (Nat × Value)) : Sem Value := Instr.buildSlice 29 1 p
theorem slice_sn (p : Array (Nat × Value)) : Instr.buildSlice 29 1 p = snSlice p := rfl
attribute [local go_sem ↓] load_st store_st load_sn build_sn slice_sn
theorem infoSn : (Try.prog.info? 54).map (fun i => (i.zero, i.size, decide (i.bytes ≤ 1000))) = some (some (.agg (rowR (0, zeroC)).toArray), 28, true) := by kernel_rfl
theorem info_sn : ∃ i, Try.prog.info? 54 = some i ∧ i.zero = some (.agg (rowR (0, zeroC)).toArray) ∧ i.size = 28 ∧ i.bytes ≤ 1000 := by
  have h := infoSn
  cases e : Try.prog.info? 54 with
  | none => rw [e] at h; cases h
  | some i =>
    rw [e] at h
    simp only [Option.map_some, Option.some.injEq, Prod.mk.injEq] at h
    exact ⟨i, rfl, h.1, h.2.1, by simpa using h.2.2⟩
theorem built_sn (n : Int) (s : StC) : Try.prog.built 54 [(0, .int .i64 n), (1, .agg s.cells.toArray)] = some (rowR (n, s)).toArray := by kernel_rfl
theorem build_is (n : Int) (s : StC) (w : World) : (snBuild #[(0, .int .i64 n), (1, .agg s.cells.toArray)]).run Try.prog w = .ok (.agg (rowR (n, s)).toArray) w := run_build w _ _ _ (built_sn n s)
theorem slice_is (x : Int × StC) (w : World) : (snSlice #[(0, .agg (rowR x).toArray)]).run Try.prog w = .ok (.slice (some ⟨w.heap.size, 0, none⟩) 1 1) (w.alloc (.cells (rowR x).toArray 54)) := by
  obtain ⟨i, hi, hz, hs, _⟩ := info_sn
  refine run_buildSlice w 29 54 1 _ _ i _ Try.underlying29 hi hz (by rw [hs]; decide) (by rw [hs]; decide) ?_
  rw [hs]
  kernel_rfl
section
variable {P : Program} {w : World}
theorem wpList_append_on {ops : Array Oper} {rest : List Oper} {o : Oper} {a : Act} {Q : Exit → Act → World → Prop} (hgd : o.guard = none) (s x : Operand) (t : TypeId)
    (ho : o.op = .call { callee := .builtin .append, args := #[s, x], argTypes := #[t, t] })
    (base : Nat) (e : TypeId) (i : TypeInfo) (z : Value) (size bytes : Nat) (ht : P.underlying t = some (.slice e)) (hi : P.info? e = some i) (hz : i.zero = some z)
    (hsize : i.size = size) (hby : i.bytes = bytes) (hzs : z.cells.size = size) (hsz : 0 < size)
    (v : Value) (n : Nat) (xs : List Value) (hs : a.eval s = v) (hown : w.ownsRow base e size v n xs)
    (ad : Addr) (m c : Nat) (news : List Value) (hx : a.eval x = .slice (some ad) m c) (hsv : ∀ j u, news[j]? = some u → w.cell? (ad.add j) = some u) (hl : news.length = m * size) (h1 : ∀ u ∈ news, u.oneCell' = true)
    (h63 : n + m ≤ maxLen) (hbytes : (n + m) * bytes ≤ 140737488355328) (hbase : base ≤ w.heap.size)
    (h : ∀ v' w', w'.ownsRow base e size v' (n + m) (xs ++ news) → w.grownBy w' v.ownBlock → (v'.ownBlock = v.ownBlock ∨ v'.ownBlock = some w.heap.size) → wpList P ops Q rest (a.put o.dst v') w') : wpList P ops Q (o :: rest) a w := by
  refine wpList_plain hgd fun K hK => ?_
  obtain ⟨v', w', hr, h2, h3, _, h4⟩ := run_append_own_at (P := P) w base t o.type e i z size bytes ht hi hz hsize hby hzs hsz v n xs hown ad m c news hl hsv h1 h63 hbytes hbase
  unfold Oper.wp execOp
  simp only [ho, resolve, invoke, builtin, Sem.run_bind, Sem.run_pure, Result.andThen_ok, List.map_toArray, List.map_cons, List.map_nil, hs, hx, hr]
  exact hK _ _ (h v' w' h2 h3 h4)
end
theorem own_sl {w : World} {base e k n : Nat} {v : Value} {xs : List Value} (h : w.ownsRow base e k v n xs) : ∃ a c, v = .slice a n c := by
  rcases h.2 with ⟨h1, h2⟩ | ⟨g, cap, cur, h1, _⟩
  · exact ⟨none, 0, by rw [h1, h2]⟩
  · exact ⟨_, _, h1⟩
theorem own_low {w : World} {base base' e k n : Nat} {v : Value} {xs : List Value} (h : w.ownsRow base e k v n xs) (hb : base' ≤ base) : w.ownsRow base' e k v n xs := by
  rcases h.2 with h2 | ⟨g, cap, cur, h1, h2, h3⟩
  · exact ⟨h.1, .inl h2⟩
  · exact ⟨h.1, .inr ⟨g, cap, cur, h1, Nat.le_trans hb h2, h3⟩⟩
theorem row_new (w : World) (x : Int × StC) : ∀ j u, (rowR x)[j]? = some u → (w.alloc (.cells (rowR x).toArray 54)).cell? ((⟨w.heap.size, 0, none⟩ : Addr).add j) = some u := fun j u hj => by
  have e1 : (⟨w.heap.size, 0, none⟩ : Addr).add j = ⟨w.heap.size, j, none⟩ := by unfold Addr.add; by_cases h0 : j = 0 <;> simp [h0]
  rw [e1, (Blk.new w 54 (rowR x)).cell, hj]
theorem row_one (x : Int × StC) : ∀ u ∈ rowR x, u.oneCell' = true := by
  have := rowsR_one [x]
  simpa [rowsR] using this
theorem rowsR_snoc (L : List (Int × StC)) (x : Int × StC) : rowsR L ++ rowR x = rowsR (L ++ [x]) := by simp [rowsR]
/-- a row that the call owns grows by one: what stays -/
theorem row_grown {w w0 w2 : World} {base : Nat} {v v2 : Value} {l : List (Int × StC)} {x : Int × StC} (hb : Below base w0 w) (hbs : base ≤ w.heap.size)
    (hown : w.ownsRow base 54 28 v l.length (rowsR l))
    (ho : w2.ownsRow base 54 28 v2 (l.length + 1) (rowsR l ++ rowR x)) (hg : (w.alloc (.cells (rowR x).toArray 54)).grownBy w2 v.ownBlock) (hv : v2.ownBlock = v.ownBlock ∨ v2.ownBlock = some (w.alloc (.cells (rowR x).toArray 54)).heap.size) :
    (∃ a2 c2, v2 = .slice a2 (l ++ [x]).length c2 ∧ w2.ownsRow base 54 28 (.slice a2 (l ++ [x]).length c2) (l ++ [x]).length (rowsR (l ++ [x]))) ∧ Below base w0 w2 ∧ base ≤ w2.heap.size ∧ (∀ b, v2.ownBlock = some b → v.ownBlock = some b ∨ w.heap.size ≤ b) ∧
    ∀ lo hi, hi ≤ w.heap.size → (∀ b, v.ownBlock = some b → b < lo ∨ hi ≤ b) → KeepI lo hi w w2 := by
  have hlen : (l ++ [x]).length = l.length + 1 := by simp
  rw [rowsR_snoc, ← hlen] at ho
  obtain ⟨a2, c2, rfl⟩ := own_sl ho
  have hsz : (w.alloc (.cells (rowR x).toArray 54)).heap.size = w.heap.size + 1 := by simp
  have hs2 := hg.size
  rw [hsz] at hs2 hv
  refine ⟨⟨a2, c2, rfl, ho⟩, ⟨hg.os.trans hb.os, hg.tape.trans hb.tape, hg.output.trans hb.output, Nat.le_trans hb.size (by omega), fun k hk => ?_⟩, by omega, fun b hb2 => ?_, fun lo hi hh ha => ⟨by omega, fun k h1 h2 => ?_⟩⟩
  · have h1 : some k ≠ v.ownBlock := fun e => by have := (hown.lt k e.symm).1; omega
    rw [hg.block k (by rw [hsz]; omega) h1, heap_alloc_old _ _ (by omega)]
    exact hb.block k hk
  · rcases hv with h | h
    · exact .inl (h ▸ hb2)
    · rw [h] at hb2; injection hb2 with e; exact .inr (by omega)
  · have h3 : some k ≠ v.ownBlock := fun e => by have := ha k e.symm; omega
    rw [hg.block k (by rw [hsz]; omega) h3, heap_alloc_old _ _ (by omega)]
theorem keep_take {L : List (Int × StC)} {lo hi : Int} {i : Nat} (h : i < L.length) : SM.keep (L.take (i + 1)) lo hi = if lo ≤ (L[i]).1 ∧ (L[i]).1 ≤ hi then SM.keep (L.take i) lo hi ++ [L[i]] else SM.keep (L.take i) lo hi := by
  unfold SM.keep
  rw [List.take_succ_eq_append_getElem h, List.filter_append]
  by_cases hc : lo ≤ (L[i]).1 ∧ (L[i]).1 ≤ hi
  · rw [if_pos hc, List.filter_cons_of_pos (by simpa using hc)]; rfl
  · rw [if_neg hc, List.filter_cons_of_neg (by simpa using hc)]; simp
set_option maxHeartbeats 4000000 in
set_option maxRecDepth 100000 in
theorem rkeep_any {w : World} {xb base : Nat} {period : Int} {L : List (Int × StC)} (hX : RefAt w xb base period L) (hl : L.length ≤ 100000) (hbs : base ≤ w.heap.size) (lo hi : Int) :
    Calls Try.prog 12 #[.pointer (some ⟨xb, 0, none⟩), .int .i64 lo, .int .i64 hi] w fun e w' => e = .returned (.int .i64 ((L.length - (SM.keep L lo hi).length : Nat) : Int)) ∧ RefAt w' xb w.heap.size period (SM.keep L lo hi) ∧ Only (fun k => k = xb) w w' := by
  obtain ⟨a, c, hB, hO⟩ := hX.ex
  have hxl := hX.low
  have xl := hB.lt
  have hfacts := Lib.hid (fun X (hb : Below w.heap.size w X) => (⟨(hB.below hb).cell 1, (hB.below hb).free 1, (hB.below hb).lt, fun i hi => row_at (own_below hO hb) (i := i) hi, hB.below hb⟩ : X.cell? ⟨xb, 1, none⟩ = some (.slice a L.length c) ∧ X.frozen? ⟨xb, 1, none⟩ = false ∧ xb < X.heap.size ∧ (∀ i < L.length, _) ∧ Blk X xb 31 [.int .i64 period, .slice a L.length c]))
  have hget := fun i (h : i < L.length) => keep_take (lo := lo) (hi := hi) h
  have hend : SM.keep (L.take L.length) lo hi = SM.keep L lo hi := by rw [List.take_length]
  have hkl : ∀ i, (SM.keep (L.take i) lo hi).length ≤ L.length := fun i => Nat.le_trans (List.length_filter_le _ _) (by rw [List.length_take]; omega)
  have hnil : w.ownsRow w.heap.size 54 28 (.slice none 0 0) 0 (rowsR []) := World.ownsRow_nil _ _ _ _
  obtain ⟨i0, hi0, hz0, hz1, hz2⟩ := info_sn
  obtain ⟨m, hm⟩ : ∃ m, L.length = m := ⟨_, rfl⟩
  rw [hm] at hl hkl hend ⊢
  replace hm := Lib.hid hm
  replace hget := Lib.hid hget
  replace hend := Lib.hid hend
  replace hkl := Lib.hid hkl
  replace hnil := Lib.hid hnil
  clear hX hB hO
  go_enter Try.func12, Try.ntmps12
  go_wp2_with fail
  go_loopg [7, 8] m (fun gh u v wr => ∃ (i : Nat) (l : List (Int × StC)) (a : Option Addr) (c : Nat), gh = m - i ∧ u = .slice a l.length c ∧ v = .int .i64 (i : Int) ∧ i ≤ m ∧ w.heap.size ≤ wr.heap.size ∧ Hid (l = SM.keep (L.take i) lo hi) ∧ Hid (wr.ownsRow w.heap.size 54 28 (.slice a l.length c) l.length (rowsR l)) ∧ Hid (Below w.heap.size w wr))
  case atStart => exact ⟨0, [], none, 0, rfl, rfl, rfl, Nat.zero_le _, Nat.le_refl _, Lib.hid rfl, hnil, Lib.hid (Below.refl _ _)⟩
  case round =>
    obtain ⟨i, l, oa, oc, rfl, rfl, rfl, him, hsz, hle, hro, hbr⟩ := hrel
    obtain ⟨x1, x1f, xlr, hrow, hBr⟩ := hfacts.out wr hbr.out
    rw [hm.out] at x1
    replace hBr := Lib.hid hBr
    have hll : l.length ≤ m := by rw [hle.out]; exact hkl.out i
    by_cases hlt : i < m
    · have hi' : i < L.length := by rw [hm.out]; omega
      obtain ⟨g, rfl, hg1, hg2, hcell⟩ := hrow i hi'
      obtain ⟨c0, -, c2⟩ := hcell i hi'
      have hH := hget.out i hi'
      obtain ⟨x, hx⟩ : ∃ x, L[i] = x := ⟨_, rfl⟩
      rw [hx] at c0 c2 hH
      have hit : (i : Int) < (m : Int) := by omega
      have hi0' : (0 : Int) ≤ (i : Int) := by omega
      clear hcell hrow
      replace hx := Lib.hid hx
      by_cases hc : lo ≤ x.1 ∧ x.1 ≤ hi
      · rw [if_pos hc] at hH
        have q0 : decide (lo ≤ x.1) = true := by simpa using hc.1
        have q1 : decide (x.1 ≤ hi) = true := by simpa using hc.2
        have hbd := slice_is x
        have hsr := Lib.hid (row_new wr x)
        have hone := Lib.hid (row_one x)
        have hro2 := Lib.hid (hro.out.alloc (.cells (rowR x).toArray 54))
        have hfin := Lib.hid (fun v2 w2 => row_grown (x := x) (v2 := v2) (w2 := w2) hbr.out hsz hro.out)
        have hHl : SM.keep (L.take (i + 1)) lo hi = l ++ [x] := by rw [hH, ← hle.out]
        replace hHl := Lib.hid hHl
        obtain ⟨k1, hk1⟩ : ∃ k1, x.1 = k1 := ⟨_, rfl⟩
        rw [hk1] at c0 q0 q1
        have hrl := Lib.hid (rowR_len x)
        obtain ⟨R, hR⟩ : ∃ R, rowR x = R := ⟨_, rfl⟩
        rw [hR] at c2 hbd hsr hone hro2 hfin hrl
        replace hR := Lib.hid hR
        replace hbd := fun w => hbd w
        clear hH hc
        have hbw := hbd wr
        clear hbd
        go_wp2_with (at_builtin; refine wpList_append_on rfl (.tmp 41) (.tmp 49) 29 rfl w.heap.size 54 i0 _ 28 _ Try.underlying29 hi0 hz0 hz1 rfl rfl (by decide) _ l.length (rowsR l) (by rfl) hro2.out ⟨wr.heap.size, 0, none⟩ 1 1 _ (by rfl) hsr.out (by rw [hrl.out]) hone.out (by unfold maxLen; omega) (Nat.le_trans (Nat.mul_le_mul_left _ hz2) (by omega)) (by simp; omega) ?_; intro v2 w2 ho2 hg2' hv2; obtain ⟨⟨a2, c2', rfl, ho3⟩, hb3, hs3, -, -⟩ := hfin.out v2 w2 ho2 hg2' hv2; replace ho3 := Lib.hid ho3; replace hb3 := Lib.hid hb3; clear ho2 hg2' hv2)
        go_roundg (m - (i + 1))
        case measure => omega
        case rel => exact ⟨i + 1, l ++ [x], a2, c2', rfl, by rw [List.length_append]; rfl, by go_num, by omega, hs3, Lib.hid hHl.out.symm, ho3, hb3⟩
      · rw [if_neg hc] at hH
        have hHl : Hid (l = SM.keep (L.take (i + 1)) lo hi) := Lib.hid (by rw [hH, ← hle.out])
        obtain ⟨k1, hk1⟩ : ∃ k1, x.1 = k1 := ⟨_, rfl⟩
        rw [hk1] at c0 hc
        clear hH
        by_cases hc1 : lo ≤ k1
        · have q0 : decide (lo ≤ k1) = true := by simpa using hc1
          have q1 : decide (k1 ≤ hi) = false := by simp; omega
          go_wp2_with fail
          go_roundg (m - (i + 1))
          case measure => omega
          case rel => exact ⟨i + 1, l, oa, oc, rfl, rfl, by go_num, by omega, hsz, hHl, hro, hbr⟩
        · have q0 : decide (lo ≤ k1) = false := by simpa using hc1
          go_wp2_with fail
          go_roundg (m - (i + 1))
          case measure => omega
          case rel => exact ⟨i + 1, l, oa, oc, rfl, rfl, by go_num, by omega, hsz, hHl, hro, hbr⟩
    · obtain rfl : i = m := by omega
      have hwr : IntKind.i64.wrap ((i : Int) - (l.length : Int)) = ((i - l.length : Nat) : Int) := by rw [IntWalk.i64_in _ (by omega)]; omega
      have hE := hle.out
      rw [hend.out] at hE
      have hfin : RefAt (wr.setCell ⟨xb, 1, none⟩ (.slice oa l.length oc)) xb w.heap.size period l := ⟨xl, oa, oc, hBr.out.set 1 _, own_only hro.out ((Only.refl (fun k => k = xb) wr).setCell (p := ⟨xb, 1, none⟩) rfl _) (fun b h1 _ h2 => by have h2' : b = xb := h2; omega)⟩
      have hfo : Only (fun k => k = xb) w (wr.setCell ⟨xb, 1, none⟩ (.slice oa l.length oc)) := Only.setCell (S := fun k => k = xb) (Only.of_below hbr.out) (p := ⟨xb, 1, none⟩) rfl _
      replace hE := Lib.hid hE
      replace hfin := Lib.hid hfin
      replace hfo := Lib.hid hfo
      clear hrow
      go_wp2_with fail
      go_ret
      exact ⟨by rw [← hE.out]; rfl, hE.out ▸ hfin.out, hfo.out⟩
section
variable {α : Type} {n : Int} {v : α}
theorem put_low : ∀ {A : List (Int × α)}, (∀ p ∈ A, p.1 < n) → SM.put n v A = A ++ [(n, v)]
  | [], _ => rfl
  | p :: A, h => by
    unfold SM.put
    have h1 := h p (by simp)
    rw [if_neg (by omega), put_low (fun q hq => h q (by simp [hq]))]
    rfl
theorem put_at {x : Int × α} (hx : n < x.1) : ∀ {A : List (Int × α)}, (∀ p ∈ A, p.1 < n) → SM.put n v (A ++ [x]) = (A ++ [(n, v)]) ++ [x]
  | [], _ => by show (if n < x.1 then _ else _) = _; rw [if_pos hx]; rfl
  | p :: A, h => by
    have h1 := h p (by simp)
    have ih := put_at hx (A := A) (fun q hq => h q (by simp [hq]))
    show (if n < p.1 then _ else p :: SM.put n v (A ++ [x])) = _
    rw [if_neg (by omega), ih]
    rfl
theorem put_past {x : Int × α} : ∀ {A : List (Int × α)}, (∃ p ∈ A, n < p.1) → SM.put n v (A ++ [x]) = SM.put n v A ++ [x]
  | [], h => by obtain ⟨p, hp, _⟩ := h; cases hp
  | q :: A, h => by
    show (if n < q.1 then _ else q :: SM.put n v (A ++ [x])) = (if n < q.1 then _ else q :: SM.put n v A) ++ [x]
    by_cases hq : n < q.1
    · rw [if_pos hq, if_pos hq]; rfl
    · rw [if_neg hq, if_neg hq, put_past (A := A) (by
        obtain ⟨p, hp, h2⟩ := h
        rcases List.mem_cons.1 hp with rfl | hp
        · exact absurd h2 hq
        · exact ⟨p, hp, h2⟩)]
      rfl
end
/-- what the reference's Offer has laid out so far -/
inductive OffRel (L : List (Int × StC)) (n : Int) (V : StV) (N i : Nat) (v : Value) (wr : World) : Bool → List (Int × StC) → Prop
  | no (h : ∀ p ∈ L.take i, p.1 < n) : OffRel L n V N i v wr false (L.take i)
  | yes (s' : StC) (n5 m5 : Nat) (h : ∀ p ∈ L.take i, p.1 ≠ n) (he : ∃ p ∈ L.take i, n < p.1) (h5 : N ≤ n5) (hs : SIn n5 m5 s' V wr) (ho : ∀ b, v.ownBlock = some b → b < n5 ∨ m5 ≤ b) : OffRel L n V N i v wr true (SM.put n s' (L.take i))
theorem OffRel.len {L : List (Int × StC)} {n : Int} {V : StV} {N i : Nat} {v : Value} {wr : World} {d : Bool} {l : List (Int × StC)} (h : OffRel L n V N i v wr d l) (hi : i ≤ L.length) : l.length ≤ i + 1 := by
  cases h with
  | no => rw [List.length_take]; omega
  | yes => rw [SM.put_len, List.length_take]; omega
theorem OffRel.ne {L : List (Int × StC)} {n : Int} {V : StV} {N i : Nat} {v : Value} {wr : World} {d : Bool} {l : List (Int × StC)} (h : OffRel L n V N i v wr d l) : ∀ p ∈ L.take i, p.1 ≠ n := by
  cases h with
  | no h => exact fun p hp => by have := h p hp; omega
  | yes _ _ _ h => exact h
/-- one element more, none put -/
theorem OffRel.next {L : List (Int × StC)} {n : Int} {V : StV} {N i : Nat} {v v2 : Value} {wr w2 : World} {d : Bool} {l : List (Int × StC)} (h : OffRel L n V N i v wr d l) (hi : i < L.length) (hx : d = true ∧ (L[i]).1 ≠ n ∨ (L[i]).1 < n)
    (hv : ∀ b, v2.ownBlock = some b → v.ownBlock = some b ∨ wr.heap.size ≤ b) (hk : ∀ lo hi, hi ≤ wr.heap.size → (∀ b, v.ownBlock = some b → b < lo ∨ hi ≤ b) → KeepI lo hi wr w2) : OffRel L n V N (i + 1) v2 w2 d (l ++ [L[i]]) := by
  have ht := List.take_succ_eq_append_getElem hi
  cases h with
  | no h =>
    have hx' : (L[i]).1 < n := by rcases hx with h | h; exact absurd h.1 (by simp); exact h
    rw [← ht]
    refine .no fun p hp => ?_
    rw [ht] at hp
    rcases List.mem_append.1 hp with hp | hp
    · exact h p hp
    · obtain rfl : p = L[i] := by simpa using hp
      exact hx'
  | yes s' n5 m5 h he h5 hs ho =>
    have hx' : (L[i]).1 ≠ n := by rcases hx with h | h; exact h.2; omega
    rw [← put_past he, ← ht]
    refine .yes s' n5 m5 (fun p hp => ?_) ?_ h5 (hs.keep (hk n5 m5 hs.top ho)) (fun b hb => ?_)
    · rw [ht] at hp
      rcases List.mem_append.1 hp with hp | hp
      · exact h p hp
      · obtain rfl : p = L[i] := by simpa using hp
        exact hx'
    · obtain ⟨p, hp, h2⟩ := he
      exact ⟨p, by rw [ht]; exact List.mem_append_left _ hp, h2⟩
    · rcases hv b hb with h6 | h6
      · exact ho b h6
      · exact .inr (Nat.le_trans hs.top h6)
/-- what is copied stays when the row behind it grows -/
theorem ins_one {V : StV} {s' : StC} {v v2 : Value} {n5 m5 : Nat} {w2 w3 : World} (hs : SIn n5 m5 s' V w2) (hlt : ∀ b, v.ownBlock = some b → b < n5 ∨ m5 ≤ b)
    (hv : ∀ b, v2.ownBlock = some b → v.ownBlock = some b ∨ w2.heap.size ≤ b) (hk : ∀ lo hi, hi ≤ w2.heap.size → (∀ b, v.ownBlock = some b → b < lo ∨ hi ≤ b) → KeepI lo hi w2 w3) : SIn n5 m5 s' V w3 ∧ ∀ b, v2.ownBlock = some b → b < n5 ∨ m5 ≤ b :=
  ⟨hs.keep (hk n5 m5 hs.top hlt), fun b hb => by
    rcases hv b hb with h | h
    · exact hlt b h
    · exact .inr (Nat.le_trans hs.top h)⟩
theorem OffRel.put {L : List (Int × StC)} {n : Int} {V : StV} {N i : Nat} {v : Value} {w4 : World} {s' : StC} {n5 m5 : Nat} (h : ∀ p ∈ L.take i, p.1 < n) (hi : i < L.length) (hx : n < (L[i]).1) (h5 : N ≤ n5) (hs : SIn n5 m5 s' V w4) (ho : ∀ b, v.ownBlock = some b → b < n5 ∨ m5 ≤ b) :
    OffRel L n V N (i + 1) v w4 true ((L.take i ++ [(n, s')]) ++ [L[i]]) := by
  have ht := List.take_succ_eq_append_getElem hi
  rw [← put_at hx h, ← ht]
  refine .yes s' n5 m5 (fun p hp => ?_) ⟨L[i], by rw [ht]; exact List.mem_append_right _ (by simp), hx⟩ h5 hs ho
  rw [ht] at hp
  rcases List.mem_append.1 hp with hp | hp
  · have := h p hp; omega
  · obtain rfl : p = L[i] := by simpa using hp
    omega
end Go.Proofs.Ytfidmpkblmebeaa
