/-
  Contracts of bytes.Equal, bytes.HasPrefix, Size and the law's same, of chapter 23.
  Conditions: as each theorem states them.
-/
import Derived.Test.YtfbimghnimepjaaDel1
import Derived.Laws.BytesArg
namespace Go.Proofs.Ytfbimghnimepjaa
open Go.RowKit
set_option linter.unusedVariables false
set_option linter.unusedSimpArgs false
attribute [local go_sem ↓] run_cut_h run_cut_l run_cut_lh
theorem strOf (xs : List UInt8) : strOfNums (xs.map fun x => (x.toNat : Int)) = ⟨xs.toArray⟩ := by
  unfold strOfNums
  congr 2
  rw [List.map_map]
  conv => rhs; rw [← List.map_id xs]
  exact List.map_congr_left fun x _ => by simp
theorem run_conv {P : Program} {K : Nat → Prop} {own : Bool} {w : World} {a : Option Addr} {xs : List UInt8} (h : ByAt K own w a xs) (src e dst : TypeId) (hs : P.underlying src = some (.slice e)) (he : P.underlying e = some (.int .u8)) (hd : P.underlying dst = some .string) (c : Nat) :
    (convert src dst (.slice a xs.length c)).run P w = .ok (.string ⟨xs.toArray⟩) w := by
  rcases Nat.eq_zero_or_pos xs.length with h0 | h0
  · obtain rfl : xs = [] := List.eq_nil_of_length_eq_zero h0
    rw [run_convert_bytes_string w src dst e _ _ c hs he hd]
    cases a <;> simp [Conv.bytesToString, loadCells]
    all_goals rfl
  · obtain ⟨b, o, rfl, k, l, f, r⟩ := h h0
    rw [run_convert_bytes_arg (P := P) w src e hs he b o xs.length c (xs.map fun x => (x.toNat : Int)) (by simp) (fun i hi => by rw [r i hi]; simp [List.getD, hi]) dst hd, strOf]
theorem str_eqB (xs ys : List UInt8) : (xs == ys) = eqB xs ys := by
  rw [eqB, Bool.eq_iff_iff]; simp
set_option maxHeartbeats 1000000 in
theorem equal_any (ba bb : Option Addr) (xs ys : List UInt8) (c d : Nat) (w : World) (ha : ByAt (fun _ => True) false w ba xs) (hb : ByAt (fun _ => True) false w bb ys) :
    Calls Try.prog 69 #[.slice ba xs.length c, .slice bb ys.length d] w fun e w' => e = .returned (.bool (eqB xs ys)) ∧ w = w' := by
  have k1 := run_conv ha 73 5 9 Try.underlying73 Try.underlying5 Try.underlying9 c
  have k2 := run_conv hb 73 5 9 Try.underlying73 Try.underlying5 Try.underlying9 d
  clear ha hb
  go_enter Try.func69, Try.ntmps69
  go_wp2_with fail
  all_goals go_ret
  all_goals exact ⟨ret_bool (str_eqB _ _), rfl⟩
set_option maxHeartbeats 1000000 in
theorem prefix_any (ba bb : Option Addr) (xs ys : List UInt8) (c d : Nat) (w : World) (hc : xs.length ≤ c) (ha : ByAt (fun _ => True) false w ba xs) (hb : ByAt (fun _ => True) false w bb ys) :
    Calls Try.prog 82 #[.slice ba xs.length c, .slice bb ys.length d] w fun e w' => e = .returned (.bool (ys.isPrefixOf xs)) ∧ w = w' := by
  by_cases hl : ys.length ≤ xs.length
  · have hq : eqB (xs.take ys.length) ys = ys.isPrefixOf xs := by
      rw [eqB, Bool.eq_iff_iff]
      simp only [decide_eq_true_eq, List.isPrefixOf_iff_prefix, List.prefix_iff_eq_take]
      exact eq_comm
    have hq2 : (xs.take ys.length).length = ys.length := by rw [List.length_take]; omega
    have heq := equal_any ba bb (xs.take ys.length) ys c d w (ha.take _) hb
    rw [hq, hq2] at heq
    have hl1 : (ys.length : Int) ≤ xs.length := by omega
    have hl2 : (ys.length : Int) ≤ c := by omega
    clear ha hb hq hq2
    replace heq := Lib.hid heq
    go_enter Try.func82, Try.ntmps82
    go_wp2_with (go_at_call 69; refine heq.out.mono ?_; rintro e w' ⟨rfl, rfl⟩)
    all_goals go_ret
    all_goals exact ⟨rfl, rfl⟩
  · have hq : ys.isPrefixOf xs = false := by
      rw [Bool.eq_false_iff]
      simp only [ne_eq, List.isPrefixOf_iff_prefix]
      intro h
      exact hl h.length_le
    rw [hq]
    have hl1 : ¬ (ys.length : Int) ≤ xs.length := by omega
    clear ha hb hq
    go_enter Try.func82, Try.ntmps82
    go_wp2_with fail
    all_goals go_ret
    all_goals exact ⟨rfl, rfl⟩
/-! ### a list of changes -/
def ChAt (K : Nat → Prop) (w : World) (a : Option Addr) (ds : List DM.Chg) : Prop :=
  0 < ds.length → ∃ b o, a = some ⟨b, o, none⟩ ∧ K b ∧ b < w.heap.size ∧ ∀ i (h : i < ds.length), ChCells K w b (o + i * 4) ds[i].field ds[i].pos ds[i].old ds[i].new
theorem ChAt.keep {K : Nat → Prop} {w w' : World} {a : Option Addr} {ds : List DM.Chg} (h : ChAt K w a ds) (hs : w.heap.size ≤ w'.heap.size) (hk : ∀ b, K b → b < w.heap.size → w'.heap[b]? = w.heap[b]?) : ChAt K w' a ds :=
  fun h0 => let ⟨b, o, e, k, l, r⟩ := h h0; ⟨b, o, e, k, Nat.lt_of_lt_of_le l hs, fun i hi => (r i hi).keep hs (hk b k l) hk⟩
theorem ChAt.below {K : Nat → Prop} {w w' : World} {a : Option Addr} {ds : List DM.Chg} (h : ChAt K w a ds) (hb : Below w.heap.size w w') : ChAt K w' a ds := h.keep hb.size (fun b _ l => hb.block b l)
theorem ChAt.only {K S : Nat → Prop} {w w' : World} {a : Option Addr} {ds : List DM.Chg} (h : ChAt K w a ds) (ho : Only S w w') (hn : ∀ b, K b → ¬ S b) : ChAt K w' a ds := h.keep ho.size (fun b k l => ho.block b l (hn b k))
theorem ChAt.mono {K L : Nat → Prop} {w : World} {a : Option Addr} {ds : List DM.Chg} (h : ChAt K w a ds) (hK : ∀ b, K b → L b) : ChAt L w a ds :=
  fun h0 => let ⟨b, o, e, k, l, r⟩ := h h0; ⟨b, o, e, hK b k, l, fun i hi => (r i hi).mono hK⟩
theorem ByAt.lt {K : Nat → Prop} {own : Bool} {w : World} {a : Option Addr} {xs : List UInt8} (h : ByAt K own w a xs) : ByAt (fun b => K b ∧ b < w.heap.size) own w a xs := fun h0 => let ⟨b, o, e, k, l, r⟩ := h h0; ⟨b, o, e, ⟨k, l⟩, l, r⟩
theorem TxCell.lt {K : Nat → Prop} {own : Bool} {w : World} {v : Option Value} {x : List UInt8} (h : TxCell K own w v x) : TxCell (fun b => K b ∧ b < w.heap.size) own w v x := let ⟨a, c, e, h1, h2, h3⟩ := h; ⟨a, c, e, h1, h2, h3.lt⟩
theorem ChAt.lt {K : Nat → Prop} {w : World} {a : Option Addr} {ds : List DM.Chg} (h : ChAt K w a ds) : ChAt (fun b => K b ∧ b < w.heap.size) w a ds :=
  fun h0 => let ⟨b, o, e, k, l, r⟩ := h h0; ⟨b, o, e, ⟨k, l⟩, l, fun i hi => let ⟨c1, c2, c3, c4⟩ := r i hi; ⟨c1, c2, c3.lt, c4.lt⟩⟩
/-- the four cells of one change -/
theorem ChAt.nth {K : Nat → Prop} {w : World} {a : Option Addr} {ds : List DM.Chg} (h : ChAt K w a ds) {i : Nat} (hi : i < ds.length) :
    ∃ b o oa oc na nc, a = some ⟨b, o, none⟩ ∧ K b ∧ b < w.heap.size ∧ w.cell? ⟨b, o + i * 4, none⟩ = some (.int .i64 ds[i].field) ∧ w.cell? ⟨b, o + i * 4 + 1, none⟩ = some (.int .i64 ds[i].pos) ∧
      w.cell? ⟨b, o + i * 4 + 2, none⟩ = some (.slice oa ds[i].old.length oc) ∧ w.cell? ⟨b, o + i * 4 + 3, none⟩ = some (.slice na ds[i].new.length nc) ∧ ds[i].old.length ≤ oc ∧ oc ≤ maxLen ∧ ds[i].new.length ≤ nc ∧ nc ≤ maxLen ∧
      ByAt K false w oa ds[i].old ∧ ByAt K false w na ds[i].new := by
  obtain ⟨b, o, e, k, l, r⟩ := h (by omega)
  obtain ⟨c1, c2, ⟨oa, oc, c3, h3, h3', b3⟩, ⟨na, nc, c4, h4, h4', b4⟩⟩ := r i hi
  exact ⟨b, o, oa, oc, na, nc, e, k, l, c1, c2, c3, c4, h3, h3', h4, h4', b3, b4⟩
theorem size_take {ds : List DM.Chg} {k : Nat} (h : k < ds.length) : DM.size (ds.take (k + 1)) = DM.size (ds.take k) + (ds[k].old.length + ds[k].new.length) := by
  unfold DM.size
  rw [List.take_succ_eq_append_getElem h, List.map_append, List.sum_append]
  simp only [List.map_cons, List.map_nil, List.sum_cons, List.sum_nil, Nat.add_zero]
theorem size_le (ds : List DM.Chg) (k : Nat) : DM.size (ds.take k) ≤ DM.size ds := by
  conv => rhs; rw [← List.take_append_drop k ds]
  unfold DM.size
  rw [List.map_append, List.sum_append]
  exact Nat.le_add_right _ _
set_option maxHeartbeats 2000000 in
theorem size_any (a : Option Addr) (ds : List DM.Chg) (c : Nat) (w : World) (hn : ds.length ≤ 1000000) (hs : DM.size ds ≤ 1000000) (ha : ChAt (fun _ => True) w a ds) :
    Calls Try.prog 54 #[.slice a ds.length c] w fun e w' => e = .returned (.int .i64 (DM.size ds : Nat)) ∧ Below w.heap.size w w' := by
  replace ha := Lib.hid ha
  go_enter Try.func54, Try.ntmps54
  go_wp2_with fail
  go_loopw [3, 8] (fun n i wr => ∃ k : Nat, i = .int .i64 (k : Int) ∧ n = .int .i64 (DM.size (ds.take k) : Nat) ∧ k ≤ ds.length ∧ Below w.heap.size w wr) (fun _ i _ => ds.length - (intOf i).toNat)
  case atStart => exact ⟨0, rfl, rfl, by omega, Below.refl _ _⟩
  case round =>
    obtain ⟨k, rfl, rfl, hk, hbel⟩ := hrel
    by_cases h1 : k < ds.length
    · obtain ⟨b, o, oa, oc, na, nc, rfl, _, hb, c1, c2, c3, c4, _, _, _, _, _, _⟩ := (ha.out.below hbel).nth h1
      have e1 := size_take h1
      have e2 := size_le ds (k + 1)
      have e3 : ds[k].old.length ≤ 1000000 := by omega
      have e4 : ds[k].new.length ≤ 1000000 := by omega
      have e5 : DM.size (ds.take k) + (ds[k].old.length + ds[k].new.length) ≤ 1000000 := by omega
      replace e1 := Lib.hid e1
      clear e2
      generalize DM.size (ds.take k) = s at *
      go_wp2_with fail
      all_goals go_roundw
      case measure => simp [intOf]; omega
      case rel => exact ⟨k + 1, by go_num, by rw [e1.out]; go_num, by omega, bl_alloc hbel _⟩
    · have hkx : k = ds.length := by omega
      have e1 : DM.size (ds.take k) = DM.size ds := by rw [hkx, List.take_length]
      rw [e1]
      clear e1 hkx
      go_wp2_with fail
      all_goals go_ret
      all_goals exact ⟨rfl, hbel⟩
def tup (c : DM.Chg) : Int × Int × List UInt8 × List UInt8 := (c.field, c.pos, c.old, c.new)
theorem tup_inj {c d : DM.Chg} (h : tup c = tup d) : c = d := by
  cases c; cases d; simp only [tup, Prod.mk.injEq] at h; obtain ⟨rfl, rfl, rfl, rfl⟩ := h; rfl
def chB (ds es : List DM.Chg) : Bool := decide (ds.map tup = es.map tup)
theorem chB_iff {ds es : List DM.Chg} : chB ds es = true ↔ ds = es := by
  simp only [chB, decide_eq_true_eq]
  refine ⟨fun h => ?_, fun h => by rw [h]⟩
  exact (List.map_inj_right fun _ _ e => tup_inj e).1 h
theorem chB_len {xs ys : List DM.Chg} (h : ¬ xs.length = ys.length) : chB xs ys = false := by
  rw [Bool.eq_false_iff, ne_eq, chB_iff]; intro e; exact h (by rw [e])
theorem chB_at {xs ys : List DM.Chg} {k : Nat} (h1 : k < xs.length) (h2 : k < ys.length) (h : xs[k] ≠ ys[k]) : chB xs ys = false := by
  rw [Bool.eq_false_iff, ne_eq, chB_iff]; intro e; subst e; exact h rfl
def AlikeC (k : Nat) (xs ys : List DM.Chg) : Prop := ∀ i, i < k → ∃ c, xs[i]? = some c ∧ ys[i]? = some c
theorem AlikeC.succ {k : Nat} {xs ys : List DM.Chg} (h : AlikeC k xs ys) (h1 : k < xs.length) (h2 : k < ys.length) (e : xs[k] = ys[k]) : AlikeC (k + 1) xs ys := fun i hi => by
  by_cases hk : i = k
  · subst hk; exact ⟨xs[i], by simp [h1], by simp [h2, e]⟩
  · exact h i (by omega)
theorem AlikeC.eq {xs ys : List DM.Chg} (h : AlikeC xs.length xs ys) (hl : xs.length = ys.length) : chB xs ys = true :=
  chB_iff.2 (List.ext_getElem? fun i => by
    by_cases hi : i < xs.length
    · obtain ⟨c, h1, h2⟩ := h i hi; rw [h1, h2]
    · rw [List.getElem?_eq_none (by omega), List.getElem?_eq_none (by omega)])
theorem int_ne {a b : Int} (h : ¬ a = b) : (a != b) = true := by simpa using h
theorem int_eq {a b : Int} (h : a = b) : (a != b) = false := by simpa using h
set_option maxHeartbeats 4000000 in
set_option maxRecDepth 100000 in
theorem same23_any (ba bb : Option Addr) (xs ys : List DM.Chg) (c d : Nat) (w : World) (hx : xs.length ≤ 1000000) (hy : ys.length ≤ 1000000)
    (hxs : ∀ i (h : i < xs.length), xs[i].old.length ≤ 1000000 ∧ xs[i].new.length ≤ 1000000) (hys : ∀ i (h : i < ys.length), ys[i].old.length ≤ 1000000 ∧ ys[i].new.length ≤ 1000000)
    (ha : ChAt (fun _ => True) w ba xs) (hb : ChAt (fun _ => True) w bb ys) :
    Calls Try.prog 45 #[.slice ba xs.length c, .slice bb ys.length d] w fun e w' => e = .returned (.bool (chB xs ys)) ∧ ∃ m, w' = w.drewN m := by
  replace ha := Lib.hid ha
  replace hb := Lib.hid hb
  replace hxs := Lib.hid hxs
  replace hys := Lib.hid hys
  by_cases hl : xs.length = ys.length
  · have hle := hl
    replace hl := Lib.hid hl
    have hl1 : ((xs.length : Int) != (ys.length : Int)) = false := by simp [hle]
    have hl2 : (xs.length : Int) ≤ ys.length := by omega
    have hl3 : (ys.length : Int) ≤ xs.length := by omega
    have hl4 : xs.length ≤ ys.length := by omega
    have hl5 : ys.length ≤ xs.length := by omega
    clear hle
    go_enter Try.func45, Try.ntmps45
    go_wp2_with fail
    go_loopw [5] (fun i wr => ∃ k m : Nat, i = .int .i64 (k : Int) ∧ k ≤ ys.length ∧ AlikeC k xs ys ∧ wr = w.drewN m) (fun i _ => ys.length - (intOf i).toNat)
    case atStart => exact ⟨0, 0, rfl, by omega, fun i h => by omega, rfl⟩
    case round =>
      obtain ⟨k, m, rfl, hk1, hal, rfl⟩ := hrel
      by_cases h1 : k < ys.length
      · have h2 : k < xs.length := by omega
        obtain ⟨b1, o1, oa, oc, na, nc, rfl, _, _, c1, c2, c3, c4, _, _, _, _, hA1, hA2⟩ := ha.out.nth h2
        obtain ⟨b2, o2, pa, pc, qa, qc, rfl, _, _, d1, d2, d3, d4, _, _, _, _, hB1, hB2⟩ := hb.out.nth h1
        have hso := fun n => same_any oa pa xs[k].old ys[k].old oc pc (w.drewN n) (hxs.out k _).1 (hys.out k _).1 (hA1.drewN n) (hB1.drewN n)
        have hsn := fun n => same_any na qa xs[k].new ys[k].new nc qc (w.drewN n) (hxs.out k _).2 (hys.out k _).2 (hA2.drewN n) (hB2.drewN n)
        clear hA1 hA2 hB1 hB2
        have z1 : (k : Int) < xs.length := by omega
        have z2 : (k : Int) < ys.length := by omega
        by_cases g1 : xs[k].field = ys[k].field
        · have f1 := int_eq g1
          by_cases g2 : xs[k].pos = ys[k].pos
          · have f2 := int_eq g2
            by_cases g3 : xs[k].old = ys[k].old
            · rw [eqB_true.2 g3] at hso
              by_cases g4 : xs[k].new = ys[k].new
              · rw [eqB_true.2 g4] at hsn
                have hal' := hal.succ h2 h1 (tup_inj (by simp only [tup, g1, g2, g3, g4]))
                clear hal g1 g2 g3 g4
                replace hso := Lib.hid hso
                replace hsn := Lib.hid hsn
                go_wp2_with (go_quiet ((go_at_call 37; first | (with_reducible exact quiet_mn hso.out) | exact quiet_mn hsn.out)))
                all_goals go_roundw
                case measure => simp [intOf]; omega
                case rel => exact ⟨k + 1, _, by go_num, by omega, hal', rfl⟩
              · rw [eqB_false.2 g4] at hsn
                have hc := chB_at h2 h1 (fun e => g4 (by rw [e]))
                clear hal g1 g2 g3 g4
                replace hc := Lib.hid hc
                replace hso := Lib.hid hso
                replace hsn := Lib.hid hsn
                go_wp2_with (go_quiet ((go_at_call 37; first | (with_reducible exact quiet_mn hso.out) | exact quiet_mn hsn.out)))
                all_goals go_ret
                all_goals exact ⟨ret_bool (by rw [hc.out]), dn _ _ _⟩
            · rw [eqB_false.2 g3] at hso
              have hc := chB_at h2 h1 (fun e => g3 (by rw [e]))
              clear hal g1 g2 g3 hsn
              replace hc := Lib.hid hc
              replace hso := Lib.hid hso
              go_wp2_with (go_quiet ((go_at_call 37; exact quiet_mn hso.out)))
              all_goals go_ret
              all_goals exact ⟨ret_bool (by rw [hc.out]), dn _ _ _⟩
          · have f2 := int_ne g2
            have hc := chB_at h2 h1 (fun e => g2 (by rw [e]))
            clear hal g1 g2 hsn hso
            replace hc := Lib.hid hc
            go_wp2_with (go_quiet (fail))
            all_goals go_ret
            all_goals exact ⟨ret_bool (by rw [hc.out]), dn _ _ _⟩
        · have f1 := int_ne g1
          have hc := chB_at h2 h1 (fun e => g1 (by rw [e]))
          clear hal g1 hsn hso
          replace hc := Lib.hid hc
          go_wp2_with (go_quiet (fail))
          all_goals go_ret
          all_goals exact ⟨ret_bool (by rw [hc.out]), dn _ _ _⟩
      · have hc := AlikeC.eq (xs := xs) (ys := ys) (by have := hal; rwa [show k = xs.length by omega] at this) hl.out
        clear hal
        replace hc := Lib.hid hc
        go_wp2_with (go_quiet (fail))
        all_goals go_ret
        all_goals exact ⟨ret_bool (by rw [hc.out]), m, rfl⟩
  · have hc := chB_len hl
    have hl1 : ((xs.length : Int) != (ys.length : Int)) = true := by simp only [bne_iff_ne, ne_eq]; omega
    replace hc := Lib.hid hc
    go_enter Try.func45, Try.ntmps45
    go_wp2_with fail
    all_goals go_ret
    all_goals exact ⟨ret_bool (by rw [hc.out]), 0, rfl⟩
end Go.Proofs.Ytfbimghnimepjaa
