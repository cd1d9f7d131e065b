/-
  The contract of a change's put, of chapter 23.
  Conditions: as each theorem states them.
-/
import Derived.Test.YtepdfkgadigafaaGreatDoorDlA
import Derived.Deep.RegionHeld3
namespace Go.Proofs.YtepdfkgadigafaaGreatDoor
open Go.RowKit
set_option linter.unusedVariables false
set_option linter.unusedSimpArgs false
attribute [local go_sem ↓] run_cut_h run_cut_l run_cut_lh
/-- a list of texts of the call's own: its row is apart from its texts -/
def OutAt (K : Nat → Prop) (own : Bool) (w : World) (a : Option Addr) (xs : List (List UInt8)) : Prop :=
  0 < xs.length → ∃ g, a = some ⟨g, 0, none⟩ ∧ K g ∧ g < w.heap.size ∧ (∀ i, i < xs.length → w.frozen? ⟨g, i, none⟩ = false) ∧ ∀ i (h : i < xs.length), TxCell (fun b => K b ∧ b ≠ g) own w (w.cell? ⟨g, i, none⟩) xs[i]
theorem OutAt.keep {K : Nat → Prop} {own : Bool} {w w' : World} {a : Option Addr} {xs : List (List UInt8)} (h : OutAt K own w a xs) (hs : w.heap.size ≤ w'.heap.size) (hk : ∀ b, K b → b < w.heap.size → w'.heap[b]? = w.heap[b]?) : OutAt K own w' a xs :=
  fun h0 => let ⟨g, e, k, l, f, r⟩ := h h0
    ⟨g, e, k, Nat.lt_of_lt_of_le l hs, fun i hi => (frozen_keep (hk g k l)).trans (f i hi), fun i hi => by rw [cell_keep (hk g k l)]; exact (r i hi).keep hs (fun b kb lb => hk b kb.1 lb)⟩
theorem OutAt.below {K : Nat → Prop} {own : Bool} {w w' : World} {a : Option Addr} {xs : List (List UInt8)} (h : OutAt K own w a xs) (hb : Below w.heap.size w w') : OutAt K own w' a xs := h.keep hb.size (fun b _ l => hb.block b l)
theorem OutAt.tx {K : Nat → Prop} {own : Bool} {w : World} {a : Option Addr} {xs : List (List UInt8)} (h : OutAt K own w a xs) : TxAt K own w a xs :=
  fun h0 => let ⟨g, e, k, l, f, r⟩ := h h0; ⟨g, 0, e, k, l, fun i hi => by rw [Nat.zero_add]; exact (r i hi).mono (fun b h => h.1)⟩
/-- one text put in another's place -/
theorem OutAt.put {K : Nat → Prop} {own : Bool} {w w5 : World} {g : Nat} {xs : List (List UInt8)} (h : OutAt K own w (some ⟨g, 0, none⟩) xs) (hb : Below w.heap.size w w5) {i : Nat} (hi : i < xs.length) {a : Option Addr} {c : Nat} {x : List UInt8}
    (h1 : x.length ≤ c) (h2 : c ≤ maxLen) (hx : ByAt (fun b => K b ∧ b ≠ g) own w5 a x) : OutAt K own (w5.setCell ⟨g, i, none⟩ (.slice a x.length c)) (some ⟨g, 0, none⟩) (xs.set i x) := by
  intro h0
  obtain ⟨g', e, k, l, f, r⟩ := (h.below hb) (by simp at h0; omega)
  obtain rfl : g' = g := by injection e with e; injection e with e; exact e.symm
  have hsz : (w5.setCell ⟨g', i, none⟩ (.slice a x.length c)).heap.size = w5.heap.size := by simp [World.setCell]
  have hoth : ∀ b, K b ∧ b ≠ g' → b < w5.heap.size → (w5.setCell ⟨g', i, none⟩ (.slice a x.length c)).heap[b]? = w5.heap[b]? := fun b hb' _ => Below.heap_setCell _ _ _ _ hb'.2
  have hc0 : ∃ v, w5.cell? ⟨g', i, none⟩ = some v := by obtain ⟨xa, xc, e, _⟩ := r i hi; exact ⟨_, e⟩
  obtain ⟨v0, hc0⟩ := hc0
  refine ⟨g', rfl, k, by rw [hsz]; exact l, fun j hj => ?_, fun j hj => ?_⟩
  · simp only [List.length_set] at hj
    have := f j hj
    rw [World.frozen?_setCell]
    exact this
  · simp only [List.length_set] at hj
    by_cases hij : i = j
    · subst hij
      simp only [List.getElem_set_self]
      refine ⟨a, c, ?_, h1, h2, hx.keep (by rw [hsz]; exact Nat.le_refl _) hoth⟩
      exact World.cell?_setCell_same _ _ _ hc0
    · simp only [ne_eq, hij, not_false_eq_true, List.getElem_set_ne]
      rw [World.cell?_setCell_other _ _ _ _ (by intro e; injection e with _ e; exact hij e)]
      exact (r j hj).keep (by rw [hsz]; exact Nat.le_refl _) hoth
theorem concat3 (g : Nat) (a0 a1 a2 : Option Addr) (k0 k1 k2 : Nat) (x0 x1 x2 : List UInt8) (w : World) (hs : x0.length + (x1.length + x2.length) ≤ 1000000) (hk : k0 ≤ maxLen ∧ k1 ≤ maxLen ∧ k2 ≤ maxLen) (hk' : x0.length ≤ k0 ∧ x1.length ≤ k1 ∧ x2.length ≤ k2)
    (c0 : w.cell? ⟨g, 0, none⟩ = some (.slice a0 x0.length k0)) (c1 : w.cell? ⟨g, 1, none⟩ = some (.slice a1 x1.length k1)) (c2 : w.cell? ⟨g, 2, none⟩ = some (.slice a2 x2.length k2))
    (h0 : ByAt (fun _ => True) false w a0 x0) (h1 : ByAt (fun _ => True) false w a1 x1) (h2 : ByAt (fun _ => True) false w a2 x2) :
    Calls Tryz.prog 52 #[.slice (some ⟨g, 0, none⟩) 3 3] w fun e w' => ∃ a c, e = .returned (.slice a (x0 ++ (x1 ++ x2)).length c) ∧ (x0 ++ (x1 ++ x2)).length ≤ c ∧ c ≤ maxLen ∧ ByAt (fun b => w.heap.size ≤ b) true w' a (x0 ++ (x1 ++ x2)) ∧ Below w.heap.size w w' := by
  have hf : [x0, x1, x2].flatten = x0 ++ (x1 ++ x2) := by simp
  have hl : (x0 ++ (x1 ++ x2)).length ≤ 1000000 := by simp; omega
  refine (concat_any (some ⟨g, 0, none⟩) [x0, x1, x2] 3 w (by simp) (by rw [hf]; exact hl) (fun _ => ⟨g, 0, rfl, trivial, World.block_lt_of_cell? w _ c0, fun i hi => ?_⟩)).mono ?_
  · match i, hi with
    | 0, _ => exact ⟨a0, k0, c0, hk'.1, hk.1, h0⟩
    | 1, _ => exact ⟨a1, k1, by simpa using c1, hk'.2.1, hk.2.1, h1⟩
    | 2, _ => exact ⟨a2, k2, by simpa using c2, hk'.2.2, hk.2.2, h2⟩
  · rintro e w' ⟨v, rfl, hown, hb⟩
    rw [hf] at hown
    obtain ⟨a, c, rfl, h3, h4, h5⟩ := ByAt.of_owns hown rfl
    exact ⟨a, c, rfl, h3, h4, h5, hb⟩
/-- what the last statement of put needs of a world, all the way through it -/
def SP (W1 : World) (H g i : Nat) (oa : Option Addr) (on oc : Nat) (na : Option Addr) (nn nc : Nat) (w' : World) : Prop :=
  Only (fun k => k = g) W1 w' ∧ w'.cell? ⟨H, 0, none⟩ = some (.int .i64 (i : Int)) ∧ w'.cell? ⟨H, 2, none⟩ = some (.slice oa on oc) ∧ w'.cell? ⟨H, 3, none⟩ = some (.slice na nn nc)
theorem SP.step {W1 : World} {H g i : Nat} {oa : Option Addr} {on oc : Nat} {na : Option Addr} {nn nc : Nat} {W W' : World} (h : SP W1 H g i oa on oc na nn nc W) (hH : H < W1.heap.size) (hb : Below W.heap.size W W') : SP W1 H g i oa on oc na nn nc W' :=
  have hl := Nat.lt_of_lt_of_le hH h.1.size
  ⟨h.1.trans (Only.of_below hb), (hb.cell (p := ⟨H, 0, none⟩) hl).trans h.2.1, (hb.cell (p := ⟨H, 2, none⟩) hl).trans h.2.2.1, (hb.cell (p := ⟨H, 3, none⟩) hl).trans h.2.2.2⟩
theorem SP.put {W1 : World} {H g i : Nat} {oa : Option Addr} {on oc : Nat} {na : Option Addr} {nn nc : Nat} {W : World} (h : SP W1 H g i oa on oc na nn nc W) (hH : H ≠ g) (u : Value) : SP W1 H g i oa on oc na nn nc (W.setCell ⟨g, i, none⟩ u) :=
  have he : ∀ o, (W.setCell ⟨g, i, none⟩ u).cell? ⟨H, o, none⟩ = W.cell? ⟨H, o, none⟩ := fun o => World.cell?_setCell_far _ _ _ _ (fun e => hH e.symm)
  ⟨h.1.setCell rfl u, (he 0).trans h.2.1, (he 2).trans h.2.2.1, (he 3).trans h.2.2.2⟩
set_option maxHeartbeats 4000000 in
set_option maxRecDepth 100000 in
theorem put_yes (K : Nat → Prop) (i p : Nat) (oa na la : Option Addr) (oc nc lc : Nat) (old new : List UInt8) (xs : List (List UInt8)) (w : World) (hK : ∀ b, w.heap.size ≤ b → K b)
    (hn : xs.length ≤ 1000000) (hx : ∀ j (h : j < xs.length), xs[j].length ≤ 100000) (ho : old.length ≤ 100000 ∧ old.length ≤ oc ∧ oc ≤ maxLen) (hn' : new.length ≤ 100000 ∧ new.length ≤ nc ∧ nc ≤ maxLen)
    (h1 : OutAt K true w la xs) (h2 : ByAt (fun _ => True) false w oa old) (h3 : ByAt (fun _ => True) false w na new)
    (hi : i < xs.length) (hp : p ≤ xs[i].length) (hpre : old.isPrefixOf (xs[i].drop p) = true) :
    Calls Tryz.prog 23 #[.agg #[.int .i64 (i : Int), .int .i64 (p : Int), .slice oa old.length oc, .slice na new.length nc], .slice la xs.length lc] w fun e w' =>
      e = .returned (.bool true) ∧ Only (fun k => la = some ⟨k, 0, none⟩) w w' ∧ OutAt K true w' la (xs.set i (xs[i].take p ++ (new ++ (xs[i].drop p).drop old.length))) := by
  obtain ⟨g, rfl, kg, lg, fg, rg⟩ := h1 (by omega)
  obtain ⟨xa, xc, c1, x1, x2, hB⟩ := rg i hi
  have hxl := hx i hi
  have f1 := fg i hi
  have hl3 : old.length ≤ xs[i].length - p := by
    rw [List.isPrefixOf_iff_prefix] at hpre
    have := hpre.length_le
    simpa using this
  have hb0 : Below w.heap.size w (w.alloc (.cells #[.int .i64 (i : Int), .int .i64 (p : Int), .slice oa old.length oc, .slice na new.length nc] 59)) := bl_alloc (Below.refl _ _) _
  have b0 : Blk (w.alloc (.cells #[.int .i64 (i : Int), .int .i64 (p : Int), .slice oa old.length oc, .slice na new.length nc] 59)) w.heap.size 59 [.int .i64 (i : Int), .int .i64 (p : Int), .slice oa old.length oc, .slice na new.length nc] := Blk.new w _ _
  obtain ⟨W1, hW1⟩ : ∃ W1, w.alloc (.cells #[.int .i64 (i : Int), .int .i64 (p : Int), .slice oa old.length oc, .slice na new.length nc] 59) = W1 := ⟨_, rfl⟩
  rw [hW1] at hb0 b0
  have k0 : W1.cell? ⟨w.heap.size, 0, none⟩ = some (.int .i64 (i : Int)) := b0.cell 0
  have k1 : W1.cell? ⟨w.heap.size, 1, none⟩ = some (.int .i64 (p : Int)) := b0.cell 1
  have k2 : W1.cell? ⟨w.heap.size, 2, none⟩ = some (.slice oa old.length oc) := b0.cell 2
  have k3 : W1.cell? ⟨w.heap.size, 3, none⟩ = some (.slice na new.length nc) := b0.cell 3
  have k4 : W1.cell? ⟨g, i, none⟩ = some (.slice xa xs[i].length xc) := (hb0.cell (p := ⟨g, i, none⟩) lg).trans c1
  have hpf := fun n => prefix_any (cutA xa p xc 1) oa (xs[i].drop p) old (xc - p) oc (W1.drewN n) (by simp; omega) (((hB.any.drop x1 p).below hb0).drewN n) ((h2.below hb0).drewN n)
  rw [hpre] at hpf
  simp only [List.length_drop] at hpf
  obtain ⟨zs, hzs⟩ : ∃ zs, zs = xs[i].take p ++ (new ++ (xs[i].drop p).drop old.length) := ⟨_, rfl⟩
  have hcon := fun (W : World) (hb : Below W1.heap.size W1 W) (G : Nat) => concat3 G xa na (cutA (cutA xa p xc 1) old.length (xc - p) 1) xc nc (xc - p - old.length) (xs[i].take p) new ((xs[i].drop p).drop old.length) W (by simp; omega) ⟨x2, hn'.2.2, by omega⟩ ⟨by simp; omega, hn'.2.1, by simp; omega⟩
  have hfin := fun (W5 : World) (hb : Below W1.heap.size W1 W5) (a : Option Addr) (c : Nat) => OutAt.put (K := K) (w := w) (w5 := W5) (g := g) h1 (bl_trans hb0 hb) hi (a := a) (c := c) (x := xs[i].take p ++ (new ++ (xs[i].drop p).drop old.length))
  have hby := fun (W : World) (hb : Below W1.heap.size W1 W) => (⟨((hB.any.take p).below hb0).below hb, (h3.below hb0).below hb, (((hB.any.drop x1 p).drop (c := xc - p) (by simp; omega) old.length).below hb0).below hb⟩ : ByAt (fun _ => True) false W xa (xs[i].take p) ∧ ByAt (fun _ => True) false W na new ∧ ByAt (fun _ => True) false W (cutA (cutA xa p xc 1) old.length (xc - p) 1) ((xs[i].drop p).drop old.length))
  have htl : (xs[i].take p).length = p := by simp; omega
  rw [htl] at hcon
  rw [← hzs] at hcon hfin ⊢
  simp only [List.length_drop] at hcon
  replace hzs := Lib.hid hzs
  have z1 : (p : Int) ≤ xs[i].length := by omega
  have z2 : (p : Int) ≤ xc := by omega
  have z3 : (i : Int) < xs.length := by omega
  have z4 : (old.length : Int) ≤ ((xs[i].length - p : Nat) : Int) := by omega
  have z5 := hb0.size
  have z6 : g < W1.heap.size := Nat.lt_of_lt_of_le lg hb0.size
  have z7 : w.heap.size < W1.heap.size := b0.lt
  have z8 : g < w.heap.size := lg
  have hcon2 := fun n => (
    have hbn : Below W1.heap.size W1 ((W1.drewN n).alloc (.cells #[.slice xa p xc, .slice na new.length nc, .slice (cutA (cutA xa p xc 1) old.length (xc - p) 1) (xs[i].length - p - old.length) (xc - p - old.length)] 22)) := bl_alloc (bl_drewN (Below.refl _ _) n) _
    have b3 := Blk.new (W1.drewN n) 22 [.slice xa p xc, .slice na new.length nc, .slice (cutA (cutA xa p xc 1) old.length (xc - p) 1) (xs[i].length - p - old.length) (xc - p - old.length)]
    hcon _ hbn W1.heap.size (b3.cell 0) (b3.cell 1) (b3.cell 2) (hby _ hbn).1 (hby _ hbn).2.1 (hby _ hbn).2.2)
  clear hcon hby
  replace hpf := Lib.hid hpf
  replace hcon2 := Lib.hid hcon2
  replace hfin := Lib.hid hfin
  replace hW1 := Lib.hid hW1
  replace hpre := Lib.hid hpre
  replace htl := Lib.hid htl
  replace hK := Lib.hid hK
  have kf := Lib.hid (fun (W : World) (hb : Below W1.heap.size W1 W) => (⟨(hb.cell (p := ⟨g, i, none⟩) z6).trans k4, (hb.frozen (p := ⟨g, i, none⟩) z6).trans ((hb0.frozen (p := ⟨g, i, none⟩) lg).trans f1)⟩ : W.cell? ⟨g, i, none⟩ = some (.slice xa xs[i].length xc) ∧ W.frozen? ⟨g, i, none⟩ = false))
  clear hx rg fg h1 h2 h3 hB c1 f1
  go_enter Tryz.func23, Tryz.ntmps23
  go_wp2_with fail
  rw [hW1.out]
  go_wp2_with (first | (go_at_call 51; refine (hpf.out _).mono ?_; rintro e w' ⟨rfl, rfl⟩) | go_quiet (fail))
  have s1 := fun n => (⟨(Only.of_below (bl_drewN (Below.refl W1.heap.size W1) n)).drew, k0, k2, k3⟩ : SP W1 w.heap.size g i oa old.length oc na new.length nc (W1.drewN n).drew)
  have s2 := Lib.hid (fun (W W' : World) (h : SP W1 w.heap.size g i oa old.length oc na new.length nc W) (hb : Below W.heap.size W W') => h.step z7 hb)
  have s3 := Lib.hid (fun (W : World) (u : Value) (h : SP W1 w.heap.size g i oa old.length oc na new.length nc W) => h.put (Nat.ne_of_gt z8) u)
  replace s1 := Lib.hid s1
  clear k0 k1 k2 k3 k4
  go_region_held3 (fun w' => Only (fun k => k = g) W1 w' ∧ w'.cell? ⟨w.heap.size, 0, none⟩ = some (.int .i64 (i : Int)) ∧ w'.cell? ⟨w.heap.size, 2, none⟩ = some (.slice oa old.length oc) ∧ w'.cell? ⟨w.heap.size, 3, none⟩ = some (.slice na new.length nc)) (first | exact s1.out _ | exact s2.out _ _ (s1.out _) (bl_alloc (Below.refl _ _) _) | exact hs | exact s3.out _ _ hs)
    (first
    | (go_at_call 52; refine (hcon2.out _).mono ?_; rintro e w5 ⟨a5, c5, rfl, hl5, hm5, hB5, hb5⟩; have hbb := bl_trans (bl_alloc (bl_drewN (Below.refl W1.heap.size W1) _) _) hb5; have hs := s2.out _ _ (s2.out _ _ (s1.out _) (bl_alloc (Below.refl _ _) _)) hb5; have q1 := (kf.out _ hbb).1; have q2 := (kf.out _ hbb).2; replace hB5 := Lib.hid hB5))
  all_goals go_wp2_with fail
  all_goals go_ret
  all_goals exact ⟨rfl, ((Only.of_below (S := fun k => some (⟨g, 0, none⟩ : Addr) = some ⟨k, 0, none⟩) hb0).trans (hs.1.mono (T := fun k => some (⟨g, 0, none⟩ : Addr) = some ⟨k, 0, none⟩) (fun k e => by subst e; rfl))).setCell (p := ⟨g, i, none⟩) rfl _, hfin.out _ hbb a5 c5 hl5 hm5 (hB5.out.mono (fun b hb => by simp at hb; exact ⟨hK.out b (by omega), by omega⟩))⟩
end Go.Proofs.YtepdfkgadigafaaGreatDoor
/-
  The contract of a change's put that does not fit, and of put altogether, of chapter 23.
  Conditions: as each theorem states them.
-/
namespace Go.Proofs.YtepdfkgadigafaaGreatDoor
open Go.RowKit
set_option linter.unusedVariables false
set_option linter.unusedSimpArgs false
attribute [local go_sem ↓] run_cut_h run_cut_l run_cut_lh
set_option maxHeartbeats 2000000 in
set_option maxRecDepth 100000 in
theorem put_noA (f p : Int) (oa na la : Option Addr) (on oc nn nc n lc : Nat) (w : World) (hn : n ≤ 1000000) (hf : f < 0 ∨ (n : Int) ≤ f) :
    Calls Tryz.prog 23 #[.agg #[.int .i64 f, .int .i64 p, .slice oa on oc, .slice na nn nc], .slice la n lc] w fun e w' => e = .returned (.bool false) ∧ Below w.heap.size w w' := by
  by_cases h0 : f < 0
  · have g1 : decide (f < 0) = true := by simpa using h0
    clear hf
    go_enter Tryz.func23, Tryz.ntmps23
    go_wp2_with (go_quiet (fail))
    all_goals go_ret
    all_goals exact ⟨rfl, bl_drewN (bl_alloc (Below.refl _ _) _) _⟩
  · have h1 : (n : Int) ≤ f := by omega
    have g1 : decide (f < 0) = false := by simpa using h0
    have g2 : decide ((n : Int) ≤ f) = true := by simpa using h1
    have g3 : (0 : Int) ≤ f := by omega
    clear hf
    go_enter Tryz.func23, Tryz.ntmps23
    go_wp2_with (go_quiet (fail))
    all_goals go_ret
    all_goals exact ⟨rfl, bl_drewN (bl_alloc (Below.refl _ _) _) _⟩
set_option maxHeartbeats 2000000 in
set_option maxRecDepth 100000 in
theorem put_noB (i : Nat) (p : Int) (oa na : Option Addr) (on oc nn nc n lc : Nat) (g : Nat) (xa : Option Addr) (m xc : Nat) (w : World) (hn : n ≤ 1000000) (hi : i < n) (hm : m ≤ 1000000) (hg : g < w.heap.size) (c1 : w.cell? ⟨g, i, none⟩ = some (.slice xa m xc)) (hp : p < 0 ∨ (m : Int) < p) :
    Calls Tryz.prog 23 #[.agg #[.int .i64 (i : Int), .int .i64 p, .slice oa on oc, .slice na nn nc], .slice (some ⟨g, 0, none⟩) n lc] w fun e w' => e = .returned (.bool false) ∧ Below w.heap.size w w' := by
  have hb0 : Below w.heap.size w (w.alloc (.cells #[.int .i64 (i : Int), .int .i64 p, .slice oa on oc, .slice na nn nc] 59)) := bl_alloc (Below.refl _ _) _
  have b0 : Blk (w.alloc (.cells #[.int .i64 (i : Int), .int .i64 p, .slice oa on oc, .slice na nn nc] 59)) w.heap.size 59 [.int .i64 (i : Int), .int .i64 p, .slice oa on oc, .slice na nn nc] := Blk.new w _ _
  obtain ⟨W1, hW1⟩ : ∃ W1, w.alloc (.cells #[.int .i64 (i : Int), .int .i64 p, .slice oa on oc, .slice na nn nc] 59) = W1 := ⟨_, rfl⟩
  rw [hW1] at hb0 b0
  have k0 : W1.cell? ⟨w.heap.size, 0, none⟩ = some (.int .i64 (i : Int)) := b0.cell 0
  have k1 : W1.cell? ⟨w.heap.size, 1, none⟩ = some (.int .i64 p) := b0.cell 1
  have k4 : W1.cell? ⟨g, i, none⟩ = some (.slice xa m xc) := (hb0.cell (p := ⟨g, i, none⟩) hg).trans c1
  have z3 : (i : Int) < n := by omega
  have z4 : decide ((i : Int) < 0) = false := by simp only [decide_eq_false_iff_not]; omega
  have z5 : decide (n ≤ i) = false := by simp only [decide_eq_false_iff_not]; omega
  replace hW1 := Lib.hid hW1
  clear c1
  by_cases h0 : p < 0
  · have g1 : decide (p < 0) = true := by simpa using h0
    clear hp
    go_enter Tryz.func23, Tryz.ntmps23
    go_wp2_with fail
    rw [hW1.out]
    go_wp2_with (go_quiet (fail))
    all_goals go_ret
    all_goals exact ⟨rfl, bl_drewN hb0 _⟩
  · have h1 : (m : Int) < p := by omega
    have g1 : decide (p < 0) = false := by simpa using h0
    have g2 : decide ((m : Int) < p) = true := by simpa using h1
    have g3 : (0 : Int) ≤ p := by omega
    clear hp
    go_enter Tryz.func23, Tryz.ntmps23
    go_wp2_with fail
    rw [hW1.out]
    go_wp2_with (go_quiet (fail))
    all_goals go_ret
    all_goals exact ⟨rfl, bl_drewN hb0 _⟩
set_option maxHeartbeats 2000000 in
set_option maxRecDepth 100000 in
theorem put_noC (i p : Nat) (oa na : Option Addr) (oc nn nc n lc : Nat) (old x : List UInt8) (g : Nat) (xa : Option Addr) (xc : Nat) (w : World) (hn : n ≤ 1000000) (hi : i < n) (hm : x.length ≤ 1000000) (hg : g < w.heap.size)
    (c1 : w.cell? ⟨g, i, none⟩ = some (.slice xa x.length xc)) (x1 : x.length ≤ xc) (hB : ByAt (fun _ => True) false w xa x) (h2 : ByAt (fun _ => True) false w oa old) (hp : p ≤ x.length) (hpre : old.isPrefixOf (x.drop p) = false) :
    Calls Tryz.prog 23 #[.agg #[.int .i64 (i : Int), .int .i64 (p : Int), .slice oa old.length oc, .slice na nn nc], .slice (some ⟨g, 0, none⟩) n lc] w fun e w' => e = .returned (.bool false) ∧ Below w.heap.size w w' := by
  have hb0 : Below w.heap.size w (w.alloc (.cells #[.int .i64 (i : Int), .int .i64 (p : Int), .slice oa old.length oc, .slice na nn nc] 59)) := bl_alloc (Below.refl _ _) _
  have b0 : Blk (w.alloc (.cells #[.int .i64 (i : Int), .int .i64 (p : Int), .slice oa old.length oc, .slice na nn nc] 59)) w.heap.size 59 [.int .i64 (i : Int), .int .i64 (p : Int), .slice oa old.length oc, .slice na nn nc] := Blk.new w _ _
  obtain ⟨W1, hW1⟩ : ∃ W1, w.alloc (.cells #[.int .i64 (i : Int), .int .i64 (p : Int), .slice oa old.length oc, .slice na nn nc] 59) = W1 := ⟨_, rfl⟩
  rw [hW1] at hb0 b0
  have k0 : W1.cell? ⟨w.heap.size, 0, none⟩ = some (.int .i64 (i : Int)) := b0.cell 0
  have k1 : W1.cell? ⟨w.heap.size, 1, none⟩ = some (.int .i64 (p : Int)) := b0.cell 1
  have k2 : W1.cell? ⟨w.heap.size, 2, none⟩ = some (.slice oa old.length oc) := b0.cell 2
  have k4 : W1.cell? ⟨g, i, none⟩ = some (.slice xa x.length xc) := (hb0.cell (p := ⟨g, i, none⟩) hg).trans c1
  have hpf := fun n => prefix_any (cutA xa p xc 1) oa (x.drop p) old (xc - p) oc (W1.drewN n) (by simp; omega) (((hB.any.drop x1 p).below hb0).drewN n) ((h2.below hb0).drewN n)
  rw [hpre] at hpf
  simp only [List.length_drop] at hpf
  have z1 : (p : Int) ≤ x.length := by omega
  have z2 : (p : Int) ≤ xc := by omega
  have z3 : (i : Int) < n := by omega
  have z4 : decide ((i : Int) < 0) = false := by simp only [decide_eq_false_iff_not]; omega
  have z5 : decide (n ≤ i) = false := by simp only [decide_eq_false_iff_not]; omega
  replace hpf := Lib.hid hpf
  replace hW1 := Lib.hid hW1
  replace hpre := Lib.hid hpre
  clear h2 hB c1
  go_enter Tryz.func23, Tryz.ntmps23
  go_wp2_with fail
  rw [hW1.out]
  go_wp2_with (first | (go_at_call 51; refine (hpf.out _).mono ?_; rintro e w' ⟨rfl, rfl⟩) | go_quiet (fail))
  all_goals go_ret
  all_goals exact ⟨rfl, bl_drewN hb0 _⟩
/-- what put needs of the lists -/
def Lens (B : Nat) (xs : List (List UInt8)) : Prop := ∀ j (h : j < xs.length), xs[j].length ≤ B
/-- what put needs of a change in cells -/
structure ChVal (w : World) (c : DM.Chg) (oa : Option Addr) (oc : Nat) (na : Option Addr) (nc : Nat) : Prop where
  o1 : c.old.length ≤ 100000
  o2 : c.old.length ≤ oc
  o3 : oc ≤ maxLen
  n1 : c.new.length ≤ 100000
  n2 : c.new.length ≤ nc
  n3 : nc ≤ maxLen
  old : ByAt (fun _ => True) false w oa c.old
  new : ByAt (fun _ => True) false w na c.new
theorem put_none (K : Nat → Prop) (c : DM.Chg) (oa na la : Option Addr) (oc nc lc : Nat) (xs : List (List UInt8)) (w : World) (hn : xs.length ≤ 1000000) (hx : Lens 100000 xs) (hc : ChVal w c oa oc na nc) (h1 : OutAt K true w la xs) (hp : DM.put xs c = none) :
    Calls Tryz.prog 23 #[.agg #[.int .i64 c.field, .int .i64 c.pos, .slice oa c.old.length oc, .slice na c.new.length nc], .slice la xs.length lc] w fun e w' => e = .returned (.bool false) ∧ Below w.heap.size w w' := by
  by_cases hf : c.field < 0 ∨ (xs.length : Int) ≤ c.field
  · exact put_noA _ _ _ _ _ _ _ _ _ _ _ _ hn hf
  · obtain ⟨i, hi⟩ : ∃ i : Nat, c.field = i := ⟨c.field.toNat, by omega⟩
    have hil : i < xs.length := by omega
    obtain ⟨g, rfl, kg, lg, fg, rg⟩ := h1 (by omega)
    obtain ⟨xa, xc, c1, x1, x2, hB⟩ := rg i hil
    have hxl := hx i hil
    have hg : xs.getD c.field.toNat [] = xs[i] := by rw [hi]; simp [List.getD, hil]
    rw [hi]
    by_cases hq : c.pos < 0 ∨ (xs[i].length : Int) < c.pos
    · exact put_noB i c.pos oa na _ _ _ _ _ _ g xa _ xc w hn hil (by omega) lg c1 hq
    · obtain ⟨p, hpp⟩ : ∃ p : Nat, c.pos = p := ⟨c.pos.toNat, by omega⟩
      have hpre : c.old.isPrefixOf (xs[i].drop p) = false := by
        rw [Bool.eq_false_iff]
        intro ht
        unfold DM.put at hp
        rw [hg, if_pos ⟨by omega, by omega, by omega, by omega, by rw [hpp]; simpa using ht⟩] at hp
        cases hp
      rw [hpp]
      exact put_noC i p oa na oc _ nc _ lc c.old xs[i] g xa xc w hn hil (by omega) lg c1 x1 hB.any hc.old (by omega) hpre
theorem put_some (K : Nat → Prop) (c : DM.Chg) (oa na la : Option Addr) (oc nc lc : Nat) (xs ys : List (List UInt8)) (w : World) (hK : ∀ b, w.heap.size ≤ b → K b) (hn : xs.length ≤ 1000000) (hx : Lens 100000 xs) (hc : ChVal w c oa oc na nc) (h1 : OutAt K true w la xs) (hp : DM.put xs c = some ys) :
    Calls Tryz.prog 23 #[.agg #[.int .i64 c.field, .int .i64 c.pos, .slice oa c.old.length oc, .slice na c.new.length nc], .slice la xs.length lc] w fun e w' => e = .returned (.bool true) ∧ Only (fun k => la = some ⟨k, 0, none⟩) w w' ∧ OutAt K true w' la ys := by
  unfold DM.put at hp
  split at hp
  · rename_i hh
    obtain ⟨q1, q2, q3, q4, q5⟩ := hh
    obtain ⟨i, hi⟩ : ∃ i : Nat, c.field = i := ⟨c.field.toNat, by omega⟩
    obtain ⟨p, hpp⟩ : ∃ p : Nat, c.pos = p := ⟨c.pos.toNat, by omega⟩
    have hil : i < xs.length := by omega
    have hg : xs.getD c.field.toNat [] = xs[i] := by rw [hi]; simp [List.getD, hil]
    rw [hg] at q4 q5 hp
    rw [hi, hpp] at hp ⊢
    rw [hpp] at q4 q5
    simp only [Int.toNat_natCast] at hp q5
    injection hp with hp
    rw [← hp, List.append_assoc]
    exact put_yes K i p oa na la oc nc lc c.old c.new xs w hK hn hx ⟨hc.o1, hc.o2, hc.o3⟩ ⟨hc.n1, hc.n2, hc.n3⟩ h1 hc.old hc.new hil (by omega) q5
  · cases hp
/-- how long texts get -/
theorem Lens.put {B : Nat} {xs ys : List (List UInt8)} {c : DM.Chg} (h : Lens B xs) (hp : DM.put xs c = some ys) : Lens (B + c.new.length) ys ∧ ys.length = xs.length := by
  unfold DM.put at hp
  split at hp
  · rename_i hh
    injection hp with hp
    subst hp
    refine ⟨fun j hj => ?_, by simp⟩
    simp only [List.length_set] at hj
    by_cases e : c.field.toNat = j
    · subst e
      simp only [List.getElem_set_self, List.length_append, List.length_take, List.length_drop]
      have hg : xs.getD c.field.toNat [] = xs[c.field.toNat] := by simp [List.getD, hj]
      have := h _ hj
      rw [hg]
      omega
    · rw [List.getElem_set_ne e]
      have := h j hj
      omega
  · cases hp
end Go.Proofs.YtepdfkgadigafaaGreatDoor
/-
  Contracts of copied and Apply, of chapter 23.
  Conditions: as each theorem states them.
-/
namespace Go.Proofs.YtepdfkgadigafaaGreatDoor
open Go.RowKit
set_option linter.unusedVariables false
set_option linter.unusedSimpArgs false
/-- a list of texts while its first k texts are being made anew -/
def MidAt (B k : Nat) (w : World) (g : Nat) (xs : List (List UInt8)) : Prop :=
  B ≤ g ∧ g < w.heap.size ∧ (∀ i, i < xs.length → w.frozen? ⟨g, i, none⟩ = false) ∧ ∀ i (h : i < xs.length), if i < k then TxCell (fun b => B ≤ b ∧ b ≠ g) true w (w.cell? ⟨g, i, none⟩) xs[i] else TxCell (fun b => b < B) false w (w.cell? ⟨g, i, none⟩) xs[i]
theorem MidAt.at {B k : Nat} {w : World} {g : Nat} {xs : List (List UInt8)} (h : MidAt B k w g xs) (hk : k < xs.length) : TxCell (fun b => b < B) false w (w.cell? ⟨g, k, none⟩) xs[k] := by
  have := h.2.2.2 k hk
  rwa [if_neg (by omega)] at this
theorem MidAt.put {B k : Nat} {w w5 : World} {g : Nat} {xs : List (List UInt8)} (h : MidAt B k w g xs) (hB : B ≤ w.heap.size) (hb : Below w.heap.size w w5) (hk : k < xs.length) {a : Option Addr} {c : Nat}
    (h1 : xs[k].length ≤ c) (h2 : c ≤ maxLen) (hx : ByAt (fun b => w.heap.size ≤ b) true w5 a xs[k]) : MidAt B (k + 1) (w5.setCell ⟨g, k, none⟩ (.slice a xs[k].length c)) g xs := by
  obtain ⟨hg, hgl, hf, hc⟩ := h
  have hsz : (w5.setCell ⟨g, k, none⟩ (.slice a xs[k].length c)).heap.size = w5.heap.size := by simp [World.setCell]
  have hoth : ∀ b, b ≠ g → (w5.setCell ⟨g, k, none⟩ (.slice a xs[k].length c)).heap[b]? = w5.heap[b]? := fun b hb' => Below.heap_setCell _ _ _ _ hb'
  have hc0 : ∃ v, w5.cell? ⟨g, k, none⟩ = some v := by
    have := hc k hk
    rw [if_neg (by omega)] at this
    obtain ⟨xa, xc, e, _⟩ := this
    exact ⟨_, (hb.cell (p := ⟨g, k, none⟩) hgl).trans e⟩
  obtain ⟨v0, hc0⟩ := hc0
  refine ⟨hg, by rw [hsz]; exact Nat.lt_of_lt_of_le hgl hb.size, fun i hi => ?_, fun i hi => ?_⟩
  · rw [World.frozen?_setCell]
    exact (hb.frozen (p := ⟨g, i, none⟩) hgl).trans (hf i hi)
  · by_cases hik : i = k
    · subst hik
      rw [if_pos (by omega)]
      refine ⟨a, c, World.cell?_setCell_same _ _ _ hc0, h1, h2, (hx.mono (fun b hb => ⟨by omega, by omega⟩)).keep (by rw [hsz]; exact Nat.le_refl _) (fun b hb _ => hoth b hb.2)⟩
    · have h0 := hc i hi
      have he : (w5.setCell ⟨g, k, none⟩ (.slice a xs[k].length c)).cell? ⟨g, i, none⟩ = w.cell? ⟨g, i, none⟩ := by
        rw [World.cell?_setCell_other _ _ _ _ (by intro e; injection e with _ e; exact hik e.symm)]
        exact hb.cell (p := ⟨g, i, none⟩) hgl
      rw [he]
      by_cases hlt : i < k
      · rw [if_pos hlt] at h0
        rw [if_pos (by omega)]
        exact (h0.keep hb.size (fun b _ l => hb.block b l)).keep (by rw [hsz]; exact Nat.le_refl _) (fun b hb _ => hoth b hb.2)
      · rw [if_neg hlt] at h0
        rw [if_neg (by omega)]
        exact (h0.keep hb.size (fun b _ l => hb.block b l)).keep (by rw [hsz]; exact Nat.le_refl _) (fun b hb _ => hoth b (by omega))
theorem MidAt.out {B k : Nat} {w : World} {g : Nat} {xs : List (List UInt8)} (h : MidAt B k w g xs) (hk : xs.length ≤ k) : OutAt (fun b => B ≤ b) true w (some ⟨g, 0, none⟩) xs := fun _ =>
  ⟨g, rfl, h.1, h.2.1, h.2.2.1, fun i hi => by have := h.2.2.2 i hi; rwa [if_pos (by omega)] at this⟩
theorem MidAt.start {K : Nat → Prop} {w w1 : World} {v : Value} {vs : List Value} {xs : List (List UInt8)} (hv : w1.ownsRow w.heap.size 22 1 v xs.length vs) (hb : Below w.heap.size w w1) (h0 : 0 < xs.length)
    (hx : ∀ i (hi : i < xs.length), TxCell K false w vs[i]? xs[i]) : ∃ g c, v = .slice (some ⟨g, 0, none⟩) xs.length c ∧ MidAt w.heap.size 0 w1 g xs := by
  rcases hv.2 with ⟨_, h⟩ | ⟨g, cap, cur, rfl, hg, hh, hc, hm, hs, ht⟩
  · omega
  · refine ⟨g, cap, rfl, hg, (Array.getElem?_eq_some_iff.1 hh).1, fun i hi => ?_, fun i hi => ?_⟩
    · simp only [World.frozen?]; rw [hh]; simp
    · rw [if_neg (by omega)]
      have e : w1.cell? ⟨g, i, none⟩ = vs[i]? := by
        simp only [World.cell?]
        rw [hh]
        have h1 := congrArg (fun l => l[i]?) ht
        simp only [List.getElem?_take, Nat.mul_one] at h1
        rw [if_pos hi] at h1
        simpa using h1
      rw [e]
      exact ((hx i hi).lt.mono (fun b h => h.2)).keep hb.size (fun b _ l => hb.block b l)
set_option maxHeartbeats 2000000 in
set_option maxRecDepth 100000 in
theorem copied_any (la : Option Addr) (xs : List (List UInt8)) (c : Nat) (w : World) (hn : xs.length ≤ 1000000) (hx : Lens 1000000 xs) (h : TxAt (fun _ => True) false w la xs) :
    Calls Tryz.prog 22 #[.slice la xs.length c] w fun e w' => ∃ a c', e = .returned (.slice a xs.length c') ∧ OutAt (fun b => w.heap.size ≤ b) true w' a xs ∧ Below w.heap.size w w' := by
  obtain ⟨vs, hv1, hv2, hv3, hv4⟩ := h.vals
  have hcl := Lib.hid (cloneT_any la xs.length c vs w hv1 hn hv2 hv3)
  have hst := Lib.hid (fun (w1 : World) (v : Value) (hv : w1.ownsRow w.heap.size 22 1 v xs.length vs) (hb : Below w.heap.size w w1) (h0 : 0 < xs.length) => MidAt.start hv hb h0 hv4)
  clear hv2 hv3 hv4 h
  replace hv1 := Lib.hid hv1
  replace hx := Lib.hid hx
  go_enter Tryz.func22, Tryz.ntmps22
  go_wp2_with fail
  refine hcl.out.mono ?_
  rintro e w1 ⟨v, rfl, hown, hb1⟩
  by_cases h0 : 0 < xs.length
  · obtain ⟨g, c1, rfl, hmid⟩ := hst.out w1 v hown hb1 h0
    clear hown hst hcl hv1
    replace hmid := Lib.hid hmid
    go_wp2_with fail
    go_loopw [9] (fun i wr => ∃ k : Nat, i = .int .i64 (k : Int) ∧ k ≤ xs.length ∧ MidAt w.heap.size k wr g xs ∧ Below w.heap.size w wr) (fun i _ => xs.length - (intOf i).toNat)
    case atStart => exact ⟨0, rfl, by omega, hmid.out, hb1⟩
    case round =>
      obtain ⟨k, rfl, hk, hm, hbr⟩ := hrel
      replace hm := Lib.hid hm
      by_cases h1 : k < xs.length
      · obtain ⟨xa, xc, c2, x1, x2, hB⟩ := hm.out.at h1
        have hg := hm.out.2.1
        have f2 := hm.out.2.2.1 k h1
        have hl := hx.out k h1
        have hcc := Lib.hid (clone_any xa xc xs[k] wr hl hB.any)
        clear hB
        go_wp2_with (go_at_call 29; refine hcc.out.mono ?_; rintro e w2 ⟨v2, rfl, hown2, hb2⟩; obtain ⟨a2, c3, rfl, y1, y2, hB2⟩ := ByAt.of_owns hown2 rfl; have q1 := (hb2.cell (p := ⟨g, k, none⟩) hg).trans c2; have q2 := (hb2.frozen (p := ⟨g, k, none⟩) hg).trans f2; replace hB2 := Lib.hid hB2; clear hown2)
        all_goals go_roundw
        case measure => simp [intOf]; omega
        case rel => exact ⟨k + 1, by go_num, by omega, hm.out.put hbr.size hb2 h1 y1 y2 hB2.out, (bl_trans hbr hb2).setCell hm.out.1 _⟩
      · have hkx : xs.length ≤ k := by omega
        go_wp2_with fail
        all_goals go_ret
        all_goals exact ⟨_, _, rfl, hm.out.out hkx, hbr⟩
  · obtain rfl : xs = [] := List.length_eq_zero_iff.1 (by omega)
    clear h0 hst hcl hv1
    obtain ⟨a1, c1, rfl⟩ : ∃ a1 c1, v = .slice a1 0 c1 := by
      rcases hown.2 with ⟨rfl, _⟩ | ⟨g, cap, cur, rfl, _⟩
      · exact ⟨_, _, rfl⟩
      · exact ⟨_, _, rfl⟩
    clear hown
    go_wp2_with fail
    go_loop [9] (fun i => i = .int .i64 0) (fun _ => 0)
    case atStart => rfl
    case round =>
      subst hrel
      go_wp2_with fail
      all_goals go_ret
      all_goals exact ⟨a1, ⟨c1, rfl⟩, fun h => absurd h (by simp), hb1⟩
/-- how a list of changes is handed on: what Apply's contract says -/
def Applied (xs : Option (List (List UInt8))) (w : World) (e : Ending) (w' : World) : Prop :=
  match xs with
  | none => e = .returned (.tuple #[.slice none 0 0, .bool false]) ∧ Below w.heap.size w w'
  | some ys => ∃ a c, e = .returned (.tuple #[.slice a ys.length c, .bool true]) ∧ OutAt (fun b => w.heap.size ≤ b) true w' a ys ∧ Below w.heap.size w w'
theorem Applied.no {w w' : World} {e : Ending} {xs : Option (List (List UInt8))} (hx : xs = none) (h : e = .returned (.tuple #[.slice none 0 0, .bool false])) (hb : Below w.heap.size w w') : Applied xs w e w' := by subst hx; exact ⟨h, hb⟩
theorem Applied.yes {w w' : World} {e : Ending} {xs : Option (List (List UInt8))} {ys : List (List UInt8)} {n c : Nat} {a : Option Addr} (hx : xs = some ys) (hn : n = ys.length) (h : e = .returned (.tuple #[.slice a n c, .bool true])) (ho : OutAt (fun b => w.heap.size ≤ b) true w' a ys) (hb : Below w.heap.size w w') : Applied xs w e w' := by
  subst hx; subst hn; exact ⟨a, c, h, ho, hb⟩
theorem ChAt.val {w : World} {a : Option Addr} {ds : List DM.Chg} {L : Nat} (h : ChAt (fun _ => True) w a ds) {i : Nat} (hi : i < ds.length) (hl : ds[i].old.length ≤ 100000 ∧ ds[i].new.length ≤ 100000) :
    ∃ b o oa oc na nc, a = some ⟨b, o, none⟩ ∧ b < w.heap.size ∧ w.cell? ⟨b, o + i * 4, none⟩ = some (.int .i64 ds[i].field) ∧ w.cell? ⟨b, o + i * 4 + 1, none⟩ = some (.int .i64 ds[i].pos) ∧
      w.cell? ⟨b, o + i * 4 + 2, none⟩ = some (.slice oa ds[i].old.length oc) ∧ w.cell? ⟨b, o + i * 4 + 3, none⟩ = some (.slice na ds[i].new.length nc) ∧ ChVal w ds[i] oa oc na nc := by
  obtain ⟨b, o, oa, oc, na, nc, e, k, l, c1, c2, c3, c4, h3, h3', h4, h4', b3, b4⟩ := h.nth hi
  exact ⟨b, o, oa, oc, na, nc, e, l, c1, c2, c3, c4, hl.1, h3, h3', hl.2, h4, h4', b3.any, b4.any⟩
theorem ChVal.below {w w' : World} {c : DM.Chg} {oa na : Option Addr} {oc nc : Nat} (h : ChVal w c oa oc na nc) (hb : Below w.heap.size w w') : ChVal w' c oa oc na nc := ⟨h.o1, h.o2, h.o3, h.n1, h.n2, h.n3, h.old.below hb, h.new.below hb⟩
/-- after the first k changes -/
def After (ds : List DM.Chg) (k : Nat) (xs ys : List (List UInt8)) : Prop := DM.apply (ds.take k) xs = some ys
theorem After.zero (ds : List DM.Chg) (xs : List (List UInt8)) : After ds 0 xs xs := rfl
theorem After.succ {ds : List DM.Chg} {k : Nat} {xs ys zs : List (List UInt8)} (h : After ds k xs ys) (hk : k < ds.length) (hp : DM.put ys ds[k] = some zs) : After ds (k + 1) xs zs := by
  unfold After at h ⊢
  rw [List.take_succ_eq_append_getElem hk, DM.apply_append, h]
  simp [DM.apply, hp]
theorem After.fail {ds : List DM.Chg} {k : Nat} {xs ys : List (List UInt8)} (h : After ds k xs ys) (hk : k < ds.length) (hp : DM.put ys ds[k] = none) : DM.apply ds xs = none := by
  unfold After at h
  rw [show ds = ds.take k ++ ds[k] :: ds.drop (k + 1) by rw [← List.drop_eq_getElem_cons hk, List.take_append_drop], DM.apply_append, h]
  simp [DM.apply, hp]
theorem After.all {ds : List DM.Chg} {k : Nat} {xs ys : List (List UInt8)} (h : After ds k xs ys) (hk : ds.length ≤ k) : DM.apply ds xs = some ys := by
  unfold After at h; rwa [List.take_of_length_le hk] at h
set_option maxHeartbeats 2000000 in
set_option maxRecDepth 100000 in
theorem apply_any (da la : Option Addr) (ds : List DM.Chg) (xs : List (List UInt8)) (dc lc : Nat) (w : World) (hd : ds.length ≤ 10) (hds : ∀ i (h : i < ds.length), ds[i].old.length ≤ 9000 ∧ ds[i].new.length ≤ 9000) (hn : xs.length ≤ 20) (hx : Lens 9000 xs)
    (h1 : ChAt (fun _ => True) w da ds) (h2 : TxAt (fun _ => True) false w la xs) :
    Calls Tryz.prog 10 #[.slice da ds.length dc, .slice la xs.length lc] w (Applied (DM.apply ds xs) w) := by
  have hcp := Lib.hid (copied_any la xs lc w (by omega) (fun j hj => by have := hx j hj; omega) h2)
  clear h2
  replace h1 := Lib.hid h1
  replace hds := Lib.hid hds
  go_enter Tryz.func10, Tryz.ntmps10
  go_wp2_with fail
  refine hcp.out.mono ?_
  rintro e w1 ⟨a1, c1, rfl, ho1, hb1⟩
  replace ho1 := Lib.hid ho1
  clear hcp
  go_wp2_with fail
  go_loopw [13] (fun i wr => ∃ (k : Nat) (ys : List (List UInt8)), i = .int .i64 (k : Int) ∧ k ≤ ds.length ∧ After ds k xs ys ∧ ys.length = xs.length ∧ Lens (9000 + 9000 * k) ys ∧ OutAt (fun b => w.heap.size ≤ b) true wr a1 ys ∧ Below w.heap.size w wr) (fun i _ => ds.length - (intOf i).toNat)
  case atStart => exact ⟨0, xs, rfl, by omega, After.zero _ _, rfl, hx, ho1.out, hb1⟩
  case round =>
    obtain ⟨k, ys, rfl, hk, haf, hyl, hyb, hoy, hbr⟩ := hrel
    replace haf := Lib.hid haf
    replace hyb := Lib.hid hyb
    replace hoy := Lib.hid hoy
    replace hyl := Lib.hid hyl
    by_cases h0 : k < ds.length
    · have hlk := hds.out k h0
      obtain ⟨b, o, oa, oc, na, nc, rfl, hbl, k1, k2, k3, k4, hcv⟩ := (h1.out.below hbr).val (L := 0) h0 (by omega)
      have hbx : Below wr.heap.size wr (wr.alloc (.cells #[.int .i64 ds[k].field, .int .i64 ds[k].pos, .slice oa ds[k].old.length oc, .slice na ds[k].new.length nc] 59)) := bl_alloc (Below.refl _ _) _
      rcases hp : DM.put ys ds[k] with _ | zs
      · have hpn := put_none (fun b => w.heap.size ≤ b) ds[k] oa na a1 oc nc c1 ys _ (by rw [hyl.out]; omega) (fun j hj => by have := hyb.out j hj; omega) (hcv.below hbx) (hoy.out.below hbx) hp
        rw [hyl.out] at hpn
        have hfin := haf.out.fail h0 hp
        replace hpn := Lib.hid hpn
        replace hfin := Lib.hid hfin
        clear hp hcv
        go_wp2_with (go_at_call 23; refine hpn.out.mono ?_; rintro e w5 ⟨rfl, hb5⟩)
        all_goals go_ret2
        all_goals exact Applied.no hfin.out rfl (bl_trans hbr (bl_trans hbx hb5))
      · have hpn := put_some (fun b => w.heap.size ≤ b) ds[k] oa na a1 oc nc c1 ys zs _ (fun b hb => Nat.le_trans hbr.size (Nat.le_trans hbx.size hb)) (by rw [hyl.out]; omega) (fun j hj => by have := hyb.out j hj; omega) (hcv.below hbx) (hoy.out.below hbx) hp
        rw [hyl.out] at hpn
        have hln := hyb.out.put hp
        have hfin := haf.out.succ h0 hp
        replace hpn := Lib.hid hpn
        replace hfin := Lib.hid hfin
        replace hln := Lib.hid hln
        have hga : ∀ q, a1 = some ⟨q, 0, none⟩ → 0 < ys.length → w.heap.size ≤ q := fun q e h => by
          obtain ⟨g, e2, hg, _⟩ := hoy.out h
          rw [e2] at e; injection e with e; injection e with e; omega
        have hy0 : 0 < ys.length := by
          rcases Nat.eq_zero_or_pos ys.length with h | h
          · obtain rfl := List.length_eq_zero_iff.1 h
            unfold DM.put at hp
            split at hp
            · rename_i hh; simp at hh; omega
            · cases hp
          · exact h
        replace hga := Lib.hid hga
        replace hy0 := Lib.hid hy0
        clear hp hcv
        go_wp2_with (go_at_call 23; refine hpn.out.mono ?_; rintro e w5 ⟨rfl, ho5, hoz⟩)
        all_goals go_roundw
        case measure => simp [intOf]; omega
        case rel => exact ⟨k + 1, zs, by go_num, by omega, hfin.out, hln.out.2.trans hyl.out, fun j hj => by have := hln.out.1 j hj; omega, hoz, (bl_trans hbr hbx).trans (ho5.below (Nat.le_trans hbr.size hbx.size) (fun q e => hga.out q e hy0.out))⟩
    · have hkx : ds.length ≤ k := by omega
      have hfin := haf.out.all hkx
      replace hfin := Lib.hid hfin
      go_wp2_with fail
      all_goals go_ret2
      all_goals exact Applied.yes hfin.out hyl.out.symm rfl hoy.out hbr
end Go.Proofs.YtepdfkgadigafaaGreatDoor
