/-
  The contract of a change's put, of chapter 23.
  Conditions: as each theorem states them.
-/
import Derived.Test.YtfbimghnimepjaaDel4
import Derived.Deep.RegionHeld3
namespace Go.Proofs.Ytfbimghnimepjaa
open Go.RowKit
set_option linter.unusedVariables false
set_option linter.unusedSimpArgs false
attribute [local go_sem ↓] run_cut_h run_cut_l run_cut_lh
/-- a list of texts of the call's own: its row is apart from its texts -/
def OutAt (K : Nat → Prop) (own : Bool) (w : World) (a : Option Addr) (xs : List (List UInt8)) : Prop :=
  0 < xs.length → ∃ g, a = some ⟨g, 0, none⟩ ∧ K g ∧ g < w.heap.size ∧ (∀ i, i < xs.length → w.frozen? ⟨g, i, none⟩ = false) ∧ ∀ i (h : i < xs.length), TxCell (fun b => K b ∧ b ≠ g) own w (w.cell? ⟨g, i, none⟩) xs[i]
theorem OutAt.keep {K : Nat → Prop} {own : Bool} {w w' : World} {a : Option Addr} {xs : List (List UInt8)} (h : OutAt K own w a xs) (hs : w.heap.size ≤ w'.heap.size) (hk : ∀ b, K b → b < w.heap.size → w'.heap[b]? = w.heap[b]?) : OutAt K own w' a xs :=
  fun h0 => let ⟨g, e, k, l, f, r⟩ := h h0
    ⟨g, e, k, Nat.lt_of_lt_of_le l hs, fun i hi => (frozen_keep (hk g k l)).trans (f i hi), fun i hi => by rw [cell_keep (hk g k l)]; exact (r i hi).keep hs (fun b kb lb => hk b kb.1 lb)⟩
theorem OutAt.below {K : Nat → Prop} {own : Bool} {w w' : World} {a : Option Addr} {xs : List (List UInt8)} (h : OutAt K own w a xs) (hb : Below w.heap.size w w') : OutAt K own w' a xs := h.keep hb.size (fun b _ l => hb.block b l)
theorem OutAt.tx {K : Nat → Prop} {own : Bool} {w : World} {a : Option Addr} {xs : List (List UInt8)} (h : OutAt K own w a xs) : TxAt K own w a xs :=
  fun h0 => let ⟨g, e, k, l, f, r⟩ := h h0; ⟨g, 0, e, k, l, fun i hi => by rw [Nat.zero_add]; exact (r i hi).mono (fun b h => h.1)⟩
/-- one text put in another's place -/
theorem OutAt.put {K : Nat → Prop} {own : Bool} {w w5 : World} {g : Nat} {xs : List (List UInt8)} (h : OutAt K own w (some ⟨g, 0, none⟩) xs) (hb : Below w.heap.size w w5) {i : Nat} (hi : i < xs.length) {a : Option Addr} {c : Nat} {x : List UInt8}
    (h1 : x.length ≤ c) (h2 : c ≤ maxLen) (hx : ByAt (fun b => K b ∧ b ≠ g) own w5 a x) : OutAt K own (w5.setCell ⟨g, i, none⟩ (.slice a x.length c)) (some ⟨g, 0, none⟩) (xs.set i x) := by
  intro h0
  obtain ⟨g', e, k, l, f, r⟩ := (h.below hb) (by simp at h0; omega)
  obtain rfl : g' = g := by injection e with e; injection e with e; exact e.symm
  have hsz : (w5.setCell ⟨g', i, none⟩ (.slice a x.length c)).heap.size = w5.heap.size := by simp [World.setCell]
  have hoth : ∀ b, K b ∧ b ≠ g' → b < w5.heap.size → (w5.setCell ⟨g', i, none⟩ (.slice a x.length c)).heap[b]? = w5.heap[b]? := fun b hb' _ => Below.heap_setCell _ _ _ _ hb'.2
  have hc0 : ∃ v, w5.cell? ⟨g', i, none⟩ = some v := by obtain ⟨xa, xc, e, _⟩ := r i hi; exact ⟨_, e⟩
  obtain ⟨v0, hc0⟩ := hc0
  refine ⟨g', rfl, k, by rw [hsz]; exact l, fun j hj => ?_, fun j hj => ?_⟩
  · simp only [List.length_set] at hj
    have := f j hj
    rw [World.frozen?_setCell]
    exact this
  · simp only [List.length_set] at hj
    by_cases hij : i = j
    · subst hij
      simp only [List.getElem_set_self]
      refine ⟨a, c, ?_, h1, h2, hx.keep (by rw [hsz]; exact Nat.le_refl _) hoth⟩
      exact World.cell?_setCell_same _ _ _ hc0
    · simp only [ne_eq, hij, not_false_eq_true, List.getElem_set_ne]
      rw [World.cell?_setCell_other _ _ _ _ (by intro e; injection e with _ e; exact hij e)]
      exact (r j hj).keep (by rw [hsz]; exact Nat.le_refl _) hoth
theorem concat3 (g : Nat) (a0 a1 a2 : Option Addr) (k0 k1 k2 : Nat) (x0 x1 x2 : List UInt8) (w : World) (hs : x0.length + (x1.length + x2.length) ≤ 1000000) (hk : k0 ≤ maxLen ∧ k1 ≤ maxLen ∧ k2 ≤ maxLen) (hk' : x0.length ≤ k0 ∧ x1.length ≤ k1 ∧ x2.length ≤ k2)
    (c0 : w.cell? ⟨g, 0, none⟩ = some (.slice a0 x0.length k0)) (c1 : w.cell? ⟨g, 1, none⟩ = some (.slice a1 x1.length k1)) (c2 : w.cell? ⟨g, 2, none⟩ = some (.slice a2 x2.length k2))
    (h0 : ByAt (fun _ => True) false w a0 x0) (h1 : ByAt (fun _ => True) false w a1 x1) (h2 : ByAt (fun _ => True) false w a2 x2) :
    Calls Try.prog 83 #[.slice (some ⟨g, 0, none⟩) 3 3] w fun e w' => ∃ a c, e = .returned (.slice a (x0 ++ (x1 ++ x2)).length c) ∧ (x0 ++ (x1 ++ x2)).length ≤ c ∧ c ≤ maxLen ∧ ByAt (fun b => w.heap.size ≤ b) true w' a (x0 ++ (x1 ++ x2)) ∧ Below w.heap.size w w' := by
  have hf : [x0, x1, x2].flatten = x0 ++ (x1 ++ x2) := by simp
  have hl : (x0 ++ (x1 ++ x2)).length ≤ 1000000 := by simp; omega
  refine (concat_any (some ⟨g, 0, none⟩) [x0, x1, x2] 3 w (by simp) (by rw [hf]; exact hl) (fun _ => ⟨g, 0, rfl, trivial, World.block_lt_of_cell? w _ c0, fun i hi => ?_⟩)).mono ?_
  · match i, hi with
    | 0, _ => exact ⟨a0, k0, c0, hk'.1, hk.1, h0⟩
    | 1, _ => exact ⟨a1, k1, by simpa using c1, hk'.2.1, hk.2.1, h1⟩
    | 2, _ => exact ⟨a2, k2, by simpa using c2, hk'.2.2, hk.2.2, h2⟩
  · rintro e w' ⟨v, rfl, hown, hb⟩
    rw [hf] at hown
    obtain ⟨a, c, rfl, h3, h4, h5⟩ := ByAt.of_owns hown rfl
    exact ⟨a, c, rfl, h3, h4, h5, hb⟩
/-- what the last statement of put needs of a world, all the way through it -/
def SP (W1 : World) (H g i : Nat) (oa : Option Addr) (on oc : Nat) (na : Option Addr) (nn nc : Nat) (w' : World) : Prop :=
  Only (fun k => k = g) W1 w' ∧ w'.cell? ⟨H, 0, none⟩ = some (.int .i64 (i : Int)) ∧ w'.cell? ⟨H, 2, none⟩ = some (.slice oa on oc) ∧ w'.cell? ⟨H, 3, none⟩ = some (.slice na nn nc)
theorem SP.step {W1 : World} {H g i : Nat} {oa : Option Addr} {on oc : Nat} {na : Option Addr} {nn nc : Nat} {W W' : World} (h : SP W1 H g i oa on oc na nn nc W) (hH : H < W1.heap.size) (hb : Below W.heap.size W W') : SP W1 H g i oa on oc na nn nc W' :=
  have hl := Nat.lt_of_lt_of_le hH h.1.size
  ⟨h.1.trans (Only.of_below hb), (hb.cell (p := ⟨H, 0, none⟩) hl).trans h.2.1, (hb.cell (p := ⟨H, 2, none⟩) hl).trans h.2.2.1, (hb.cell (p := ⟨H, 3, none⟩) hl).trans h.2.2.2⟩
theorem SP.put {W1 : World} {H g i : Nat} {oa : Option Addr} {on oc : Nat} {na : Option Addr} {nn nc : Nat} {W : World} (h : SP W1 H g i oa on oc na nn nc W) (hH : H ≠ g) (u : Value) : SP W1 H g i oa on oc na nn nc (W.setCell ⟨g, i, none⟩ u) :=
  have he : ∀ o, (W.setCell ⟨g, i, none⟩ u).cell? ⟨H, o, none⟩ = W.cell? ⟨H, o, none⟩ := fun o => World.cell?_setCell_far _ _ _ _ (fun e => hH e.symm)
  ⟨h.1.setCell rfl u, (he 0).trans h.2.1, (he 2).trans h.2.2.1, (he 3).trans h.2.2.2⟩
set_option maxHeartbeats 4000000 in
set_option maxRecDepth 100000 in
theorem put_yes (K : Nat → Prop) (i p : Nat) (oa na la : Option Addr) (oc nc lc : Nat) (old new : List UInt8) (xs : List (List UInt8)) (w : World) (hK : ∀ b, w.heap.size ≤ b → K b)
    (hn : xs.length ≤ 1000000) (hx : ∀ j (h : j < xs.length), xs[j].length ≤ 100000) (ho : old.length ≤ 100000 ∧ old.length ≤ oc ∧ oc ≤ maxLen) (hn' : new.length ≤ 100000 ∧ new.length ≤ nc ∧ nc ≤ maxLen)
    (h1 : OutAt K true w la xs) (h2 : ByAt (fun _ => True) false w oa old) (h3 : ByAt (fun _ => True) false w na new)
    (hi : i < xs.length) (hp : p ≤ xs[i].length) (hpre : old.isPrefixOf (xs[i].drop p) = true) :
    Calls Try.prog 74 #[.agg #[.int .i64 (i : Int), .int .i64 (p : Int), .slice oa old.length oc, .slice na new.length nc], .slice la xs.length lc] w fun e w' =>
      e = .returned (.bool true) ∧ Only (fun k => la = some ⟨k, 0, none⟩) w w' ∧ OutAt K true w' la (xs.set i (xs[i].take p ++ (new ++ (xs[i].drop p).drop old.length))) := by
  obtain ⟨g, rfl, kg, lg, fg, rg⟩ := h1 (by omega)
  obtain ⟨xa, xc, c1, x1, x2, hB⟩ := rg i hi
  have hxl := hx i hi
  have f1 := fg i hi
  have hl3 : old.length ≤ xs[i].length - p := by
    rw [List.isPrefixOf_iff_prefix] at hpre
    have := hpre.length_le
    simpa using this
  have hb0 : Below w.heap.size w (w.alloc (.cells #[.int .i64 (i : Int), .int .i64 (p : Int), .slice oa old.length oc, .slice na new.length nc] 116)) := bl_alloc (Below.refl _ _) _
  have b0 : Blk (w.alloc (.cells #[.int .i64 (i : Int), .int .i64 (p : Int), .slice oa old.length oc, .slice na new.length nc] 116)) w.heap.size 116 [.int .i64 (i : Int), .int .i64 (p : Int), .slice oa old.length oc, .slice na new.length nc] := Blk.new w _ _
  obtain ⟨W1, hW1⟩ : ∃ W1, w.alloc (.cells #[.int .i64 (i : Int), .int .i64 (p : Int), .slice oa old.length oc, .slice na new.length nc] 116) = W1 := ⟨_, rfl⟩
  rw [hW1] at hb0 b0
  have k0 : W1.cell? ⟨w.heap.size, 0, none⟩ = some (.int .i64 (i : Int)) := b0.cell 0
  have k1 : W1.cell? ⟨w.heap.size, 1, none⟩ = some (.int .i64 (p : Int)) := b0.cell 1
  have k2 : W1.cell? ⟨w.heap.size, 2, none⟩ = some (.slice oa old.length oc) := b0.cell 2
  have k3 : W1.cell? ⟨w.heap.size, 3, none⟩ = some (.slice na new.length nc) := b0.cell 3
  have k4 : W1.cell? ⟨g, i, none⟩ = some (.slice xa xs[i].length xc) := (hb0.cell (p := ⟨g, i, none⟩) lg).trans c1
  have hpf := fun n => prefix_any (cutA xa p xc 1) oa (xs[i].drop p) old (xc - p) oc (W1.drewN n) (by simp; omega) (((hB.any.drop x1 p).below hb0).drewN n) ((h2.below hb0).drewN n)
  rw [hpre] at hpf
  simp only [List.length_drop] at hpf
  obtain ⟨zs, hzs⟩ : ∃ zs, zs = xs[i].take p ++ (new ++ (xs[i].drop p).drop old.length) := ⟨_, rfl⟩
  have hcon := fun (W : World) (hb : Below W1.heap.size W1 W) (G : Nat) => concat3 G xa na (cutA (cutA xa p xc 1) old.length (xc - p) 1) xc nc (xc - p - old.length) (xs[i].take p) new ((xs[i].drop p).drop old.length) W (by simp; omega) ⟨x2, hn'.2.2, by omega⟩ ⟨by simp; omega, hn'.2.1, by simp; omega⟩
  have hfin := fun (W5 : World) (hb : Below W1.heap.size W1 W5) (a : Option Addr) (c : Nat) => OutAt.put (K := K) (w := w) (w5 := W5) (g := g) h1 (bl_trans hb0 hb) hi (a := a) (c := c) (x := xs[i].take p ++ (new ++ (xs[i].drop p).drop old.length))
  have hby := fun (W : World) (hb : Below W1.heap.size W1 W) => (⟨((hB.any.take p).below hb0).below hb, (h3.below hb0).below hb, (((hB.any.drop x1 p).drop (c := xc - p) (by simp; omega) old.length).below hb0).below hb⟩ : ByAt (fun _ => True) false W xa (xs[i].take p) ∧ ByAt (fun _ => True) false W na new ∧ ByAt (fun _ => True) false W (cutA (cutA xa p xc 1) old.length (xc - p) 1) ((xs[i].drop p).drop old.length))
  have htl : (xs[i].take p).length = p := by simp; omega
  rw [htl] at hcon
  rw [← hzs] at hcon hfin ⊢
  simp only [List.length_drop] at hcon
  replace hzs := Lib.hid hzs
  have z1 : (p : Int) ≤ xs[i].length := by omega
  have z2 : (p : Int) ≤ xc := by omega
  have z3 : (i : Int) < xs.length := by omega
  have z4 : (old.length : Int) ≤ ((xs[i].length - p : Nat) : Int) := by omega
  have z5 := hb0.size
  have z6 : g < W1.heap.size := Nat.lt_of_lt_of_le lg hb0.size
  have z7 : w.heap.size < W1.heap.size := b0.lt
  have z8 : g < w.heap.size := lg
  have hcon2 := fun n => (
    have hbn : Below W1.heap.size W1 ((W1.drewN n).alloc (.cells #[.slice xa p xc, .slice na new.length nc, .slice (cutA (cutA xa p xc 1) old.length (xc - p) 1) (xs[i].length - p - old.length) (xc - p - old.length)] 73)) := bl_alloc (bl_drewN (Below.refl _ _) n) _
    have b3 := Blk.new (W1.drewN n) 73 [.slice xa p xc, .slice na new.length nc, .slice (cutA (cutA xa p xc 1) old.length (xc - p) 1) (xs[i].length - p - old.length) (xc - p - old.length)]
    hcon _ hbn W1.heap.size (b3.cell 0) (b3.cell 1) (b3.cell 2) (hby _ hbn).1 (hby _ hbn).2.1 (hby _ hbn).2.2)
  clear hcon hby
  replace hpf := Lib.hid hpf
  replace hcon2 := Lib.hid hcon2
  replace hfin := Lib.hid hfin
  replace hW1 := Lib.hid hW1
  replace hpre := Lib.hid hpre
  replace htl := Lib.hid htl
  replace hK := Lib.hid hK
  have kf := Lib.hid (fun (W : World) (hb : Below W1.heap.size W1 W) => (⟨(hb.cell (p := ⟨g, i, none⟩) z6).trans k4, (hb.frozen (p := ⟨g, i, none⟩) z6).trans ((hb0.frozen (p := ⟨g, i, none⟩) lg).trans f1)⟩ : W.cell? ⟨g, i, none⟩ = some (.slice xa xs[i].length xc) ∧ W.frozen? ⟨g, i, none⟩ = false))
  clear hx rg fg h1 h2 h3 hB c1 f1
  go_enter Try.func74, Try.ntmps74
  go_wp2_with fail
  rw [hW1.out]
  go_wp2_with (first | (go_at_call 82; refine (hpf.out _).mono ?_; rintro e w' ⟨rfl, rfl⟩) | go_quiet (fail))
  have s1 := fun n => (⟨(Only.of_below (bl_drewN (Below.refl W1.heap.size W1) n)).drew, k0, k2, k3⟩ : SP W1 w.heap.size g i oa old.length oc na new.length nc (W1.drewN n).drew)
  have s2 := Lib.hid (fun (W W' : World) (h : SP W1 w.heap.size g i oa old.length oc na new.length nc W) (hb : Below W.heap.size W W') => h.step z7 hb)
  have s3 := Lib.hid (fun (W : World) (u : Value) (h : SP W1 w.heap.size g i oa old.length oc na new.length nc W) => h.put (Nat.ne_of_gt z8) u)
  replace s1 := Lib.hid s1
  clear k0 k1 k2 k3 k4
  go_region_held3 (fun w' => Only (fun k => k = g) W1 w' ∧ w'.cell? ⟨w.heap.size, 0, none⟩ = some (.int .i64 (i : Int)) ∧ w'.cell? ⟨w.heap.size, 2, none⟩ = some (.slice oa old.length oc) ∧ w'.cell? ⟨w.heap.size, 3, none⟩ = some (.slice na new.length nc)) (first | exact s1.out _ | exact s2.out _ _ (s1.out _) (bl_alloc (Below.refl _ _) _) | exact hs | exact s3.out _ _ hs)
    (first
    | (go_at_call 83; refine (hcon2.out _).mono ?_; rintro e w5 ⟨a5, c5, rfl, hl5, hm5, hB5, hb5⟩; have hbb := bl_trans (bl_alloc (bl_drewN (Below.refl W1.heap.size W1) _) _) hb5; have hs := s2.out _ _ (s2.out _ _ (s1.out _) (bl_alloc (Below.refl _ _) _)) hb5; have q1 := (kf.out _ hbb).1; have q2 := (kf.out _ hbb).2; replace hB5 := Lib.hid hB5))
  all_goals go_wp2_with fail
  all_goals go_ret
  all_goals exact ⟨rfl, ((Only.of_below (S := fun k => some (⟨g, 0, none⟩ : Addr) = some ⟨k, 0, none⟩) hb0).trans (hs.1.mono (T := fun k => some (⟨g, 0, none⟩ : Addr) = some ⟨k, 0, none⟩) (fun k e => by subst e; rfl))).setCell (p := ⟨g, i, none⟩) rfl _, hfin.out _ hbb a5 c5 hl5 hm5 (hB5.out.mono (fun b hb => by simp at hb; exact ⟨hK.out b (by omega), by omega⟩))⟩
end Go.Proofs.Ytfbimghnimepjaa
