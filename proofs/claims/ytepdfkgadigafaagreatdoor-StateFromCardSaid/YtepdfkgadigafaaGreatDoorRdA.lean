/-
  reader.number, of chapter 20.
  Conditions: as each theorem states them.
-/
import Derived.Test.YtepdfkgadigafaaGreatDoorIdx
import Derived.Test.YtepdfkgadigafaaGreatDoorRdU
import Derived.Test.YtepdfkgadigafaaGreatDoorEscA
namespace Go.Proofs.YtepdfkgadigafaaGreatDoor
open Go.RowKit Go.Sort
set_option linter.unusedVariables false
set_option linter.unusedSimpArgs false
def ErrOne (w : World) (g : Nat) : Prop := ∃ ev, w.cell? ⟨g, 0, none⟩ = some ev ∧ (ev = .nilIface ∨ ∃ te pe, ev = .iface te pe)
/-- the two errors of strconv lie there -/
def ErrAt (w : World) : Prop := ErrOne w 3 ∧ ErrOne w 4
theorem ErrOne.below {w w' : World} {g : Nat} (h : ErrOne w g) (hb : Below w.heap.size w w') : ErrOne w' g := by
  obtain ⟨ev, h1, h2⟩ := h
  exact ⟨ev, (hb.cell (p := ⟨g, 0, none⟩) (World.block_lt_of_cell? w ⟨g, 0, none⟩ h1)).trans h1, h2⟩
theorem ErrAt.below {w w' : World} (h : ErrAt w) (hb : Below w.heap.size w w') : ErrAt w' := ⟨h.1.below hb, h.2.below hb⟩
theorem ErrOne.only {w w' : World} {g : Nat} {S : Nat → Prop} (h : ErrOne w g) (ho : Only S w w') (hg : ¬ S g) : ErrOne w' g := by
  obtain ⟨ev, h1, h2⟩ := h
  exact ⟨ev, (World.cell?_of_block (a := ⟨g, 0, none⟩) (ho.block g (World.block_lt_of_cell? w ⟨g, 0, none⟩ h1) hg)).trans h1, h2⟩
theorem ErrAt.only {w w' : World} {S : Nat → Prop} (h : ErrAt w) (ho : Only S w w') (h1 : ¬ S 3) (h2 : ¬ S 4) : ErrAt w' := ⟨h.1.only ho h1, h.2.only ho h2⟩
def atoiV (s : List UInt8) : Int := match Lib.atoiAll s with | .ok v => v | .range => Lib.atoiSat s | _ => 0
theorem numV_eq (d : UInt8) (r : FM.Rd) : FM.numV d r = atoiV (FM.upto d r.1) := by unfold FM.numV atoiV; cases Lib.atoiAll (FM.upto d r.1) <;> rfl
def errI : Bool → TypeId → Value → Value | true, _, _ => .nilIface | false, te, pe => .iface te pe
/-- strconv.Atoi: the number, and whether there is an error -/
theorem atoi_any (s : List UInt8) (hl : s.length ≤ 1000000) (w : World) (hE : ErrAt w) :
    Calls Tryz.prog 61 #[strV s] w fun e w' => ∃ te pe, e = .returned (.tuple #[.int .i64 (atoiV s), errI (FM.isOk (Lib.atoiAll s)) te pe]) ∧ Below w.heap.size w w' := by
  obtain ⟨⟨e1, a1, a2⟩, ⟨e2, b1, b2⟩⟩ := hE
  have hsz : (⟨s.toArray⟩ : ByteArray).size = s.length := ba_size s
  unfold atoiV
  rcases h : Lib.atoiAll s with v | _ | _
  ·
    refine (Tryz.strconv_Atoi_ok ⟨s.toArray⟩ (by rw [hsz]; omega) v h w).mono ?_
    rintro e w' ⟨rfl, hw⟩
    refine ⟨0, .nilIface, rfl, ?_⟩
    rcases hw with rfl | ⟨t, rfl⟩
    · exact Below.refl _ _
    · exact Lib.bytesWorld_below _ _ _
  ·
    refine (Tryz.strconv_Atoi_syntax ⟨s.toArray⟩ (by rw [hsz]; omega) h e1 w a1 a2).mono ?_
    rintro e w' ⟨N, rfl, _, _, hb⟩
    exact ⟨_, _, rfl, hb⟩
  ·
    refine (Tryz.strconv_Atoi_range ⟨s.toArray⟩ (by rw [hsz]; omega) h e2 w b1 b2).mono ?_
    rintro e w' ⟨N, rfl, _, _, hb⟩
    exact ⟨_, _, rfl, hb⟩
end Go.Proofs.YtepdfkgadigafaaGreatDoor
/-
  reader.number, of chapter 20: up to a blank, or to a quote. (Printed by gen_rdn.py.)
  Conditions: as each theorem states them.
-/
namespace Go.Proofs.YtepdfkgadigafaaGreatDoor
open Go.RowKit Go.Sort
set_option linter.unusedVariables false
set_option linter.unusedSimpArgs false

set_option maxHeartbeats 8000000 in
set_option maxRecDepth 100000 in
theorem number_any32 (p : Nat) (s : List UInt8) (bad : Bool) (w : World) (hb : Blk w p 75 [strV s, .bool bad]) (hl : s.length ≤ 100000) (hE : ErrAt w) :
    Calls Tryz.prog 34 #[.pointer (some ⟨p, 0, none⟩), .string ⟨#[32]⟩] w fun e w' => e = .returned (.int .i64 (FM.numV 32 (s, bad))) ∧ Blk w' p 75 [strV (FM.numE 32 (s, bad)).1, .bool (FM.numE 32 (s, bad)).2] ∧ Only (fun k => k = p) w w' := by
  obtain ⟨A, hA⟩ : ∃ A, FM.upto 32 s = A := ⟨_, rfl⟩
  obtain ⟨B, hB⟩ : ∃ B, FM.behind 32 s = B := ⟨_, rfl⟩
  have hix := idx_upto 32 s
  rw [hA, hB] at hix
  obtain ⟨M, hM⟩ : ∃ M, FM.numV 32 (s, bad) = M := ⟨_, rfl⟩
  have eV : atoiV A = M := by rw [← hM, numV_eq, hA]
  have eE : FM.numE 32 (s, bad) = (B, bad || !FM.isOk (Lib.atoiAll A)) := by unfold FM.numE; rw [hA, hB]
  rw [eE, hM]
  dsimp only
  obtain ⟨K, hK⟩ : ∃ K, FM.isOk (Lib.atoiAll A) = K := ⟨_, rfl⟩
  have hAl : A.length ≤ s.length := by rcases hix with ⟨_, rfl, _⟩ | ⟨_, h, _⟩ <;> omega
  have hat := fun W (hW : Below w.heap.size w W) => atoi_any A (by omega) W (hE.below hW)
  rw [eV, hK] at hat
  rw [hK]
  clear eE eV hM hK hA hB hE
  obtain ⟨cv, Y0, hcv, hy0, hrow, hlt, _⟩ := conv_room (P := Tryz.prog) w 9 22 5 s Tryz.underlying9 Tryz.underlying22 Tryz.underlying5
  have hidx := index_any32 s w.heap.size cv Y0 hlt hrow (by omega)
  replace hrow := Lib.hid hrow
  have hbB := Lib.hid (fun W (hW : Below w.heap.size w W) => hb.below hW)
  have c0 : w.cell? ⟨p, 0, none⟩ = some (strV s) := hb.cell 0
  have c1 : w.cell? ⟨p, 1, none⟩ = some (.bool bad) := hb.cell 1
  have d0 : Y0.cell? ⟨p, 0, none⟩ = some (strV s) := (hb.below hy0).cell 0
  have hpl := hb.lt
  have hsz : (⟨s.toArray⟩ : ByteArray).size = s.length := ba_size s
  have hdone := Lib.hid (fun Y2 (h2 : Below w.heap.size w Y2) (x : Bool) => (⟨((hb.below h2).set 1 (.bool x)).set 0 (strV B), ((Only.of_below (S := fun k => k = p) h2).setCell (p := ⟨p, 1, none⟩) rfl _).setCell (p := ⟨p, 0, none⟩) rfl _⟩ : Blk ((Y2.setCell ⟨p, 1, none⟩ (.bool x)).setCell ⟨p, 0, none⟩ (strV B)) p 75 [strV B, .bool x] ∧ Only (fun k => k = p) w ((Y2.setCell ⟨p, 1, none⟩ (.bool x)).setCell ⟨p, 0, none⟩ (strV B))))
  clear hb
  rcases hix with ⟨hI, hAs, hBs⟩ | ⟨hI, hlt2, hAt, hBd⟩
  · have hx0 : (⟨s.toArray⟩ : ByteArray).extract 0 s.length = ⟨A.toArray⟩ := by rw [ext_list, hAs]; simp
    have hx1 : (⟨s.toArray⟩ : ByteArray).extract s.length s.length = ⟨B.toArray⟩ := by rw [ext_list, hBs]; simp
    rw [hI] at hidx
    subst hBs
    clear hAs hI
    replace hidx := Lib.hid hidx
    replace hat := Lib.hid hat
    go_enter Tryz.func34, Tryz.ntmps34
    go_upto_region 6 with (first
        | (go_at_call 60; (with_reducible refine hidx.out.mono ?_); rintro e Y1 ⟨rfl, hy1⟩; have hY1 := bl_trans hy0 hy1; have f0 : Y1.cell? ⟨p, 0, none⟩ = some (strV s) := (hbB.out _ hY1).cell 0)
        | (go_at_call 61; (with_reducible refine (hat.out _ hY1).mono ?_); rintro e Y2 ⟨te, pe, rfl, hy2⟩; have hY2 := bl_trans hY1 hy2; have g0 : Y2.cell? ⟨p, 0, none⟩ = some (strV s) := (hbB.out _ hY2).cell 0; have g1 := (hbB.out _ hY2).cell 1; simp only [List.getElem?_cons_zero, List.getElem?_cons_succ] at g1; have hfr := (hbB.out _ hY2).free; have hpl2 := (hbB.out _ hY2).lt))
    clear hidx hat hcv hbB hrow
    cases bad <;> cases K
    all_goals
      simp only [errI]
      go_wp2_with fail
      all_goals go_ret
      all_goals exact ⟨rfl, hdone.out _ hY2 _⟩
  · have hx0 : (⟨s.toArray⟩ : ByteArray).extract 0 A.length = ⟨A.toArray⟩ := by rw [ext_list, Nat.sub_zero, List.drop_zero, ← hAt]
    have hx1 : (⟨s.toArray⟩ : ByteArray).extract A.length s.length = ⟨B.toArray⟩ := by rw [ext_list, ← hBd, List.take_of_length_le (by rw [hBd]; simp)]
    rw [hI] at hidx
    clear hAt hBd hI
    have q0 : (0 : Int) ≤ (A.length : Int) := by omega
    have q1 : (A.length : Int) ≤ (s.length : Int) := by omega
    replace hidx := Lib.hid hidx
    replace hat := Lib.hid hat
    go_enter Tryz.func34, Tryz.ntmps34
    go_upto_region 6 with (first
        | (go_at_call 60; (with_reducible refine hidx.out.mono ?_); rintro e Y1 ⟨rfl, hy1⟩; have hY1 := bl_trans hy0 hy1; have f0 : Y1.cell? ⟨p, 0, none⟩ = some (strV s) := (hbB.out _ hY1).cell 0)
        | (go_at_call 61; (with_reducible refine (hat.out _ hY1).mono ?_); rintro e Y2 ⟨te, pe, rfl, hy2⟩; have hY2 := bl_trans hY1 hy2; have g0 : Y2.cell? ⟨p, 0, none⟩ = some (strV s) := (hbB.out _ hY2).cell 0; have g1 := (hbB.out _ hY2).cell 1; simp only [List.getElem?_cons_zero, List.getElem?_cons_succ] at g1; have hfr := (hbB.out _ hY2).free; have hpl2 := (hbB.out _ hY2).lt))
    clear hidx hat hcv hbB hrow
    cases bad <;> cases K
    all_goals
      simp only [errI]
      go_wp2_with fail
      all_goals go_ret
      all_goals exact ⟨rfl, hdone.out _ hY2 _⟩
set_option maxHeartbeats 8000000 in
set_option maxRecDepth 100000 in
theorem number_any34 (p : Nat) (s : List UInt8) (bad : Bool) (w : World) (hb : Blk w p 75 [strV s, .bool bad]) (hl : s.length ≤ 100000) (hE : ErrAt w) :
    Calls Tryz.prog 34 #[.pointer (some ⟨p, 0, none⟩), .string ⟨#[34]⟩] w fun e w' => e = .returned (.int .i64 (FM.numV 34 (s, bad))) ∧ Blk w' p 75 [strV (FM.numE 34 (s, bad)).1, .bool (FM.numE 34 (s, bad)).2] ∧ Only (fun k => k = p) w w' := by
  obtain ⟨A, hA⟩ : ∃ A, FM.upto 34 s = A := ⟨_, rfl⟩
  obtain ⟨B, hB⟩ : ∃ B, FM.behind 34 s = B := ⟨_, rfl⟩
  have hix := idx_upto 34 s
  rw [hA, hB] at hix
  obtain ⟨M, hM⟩ : ∃ M, FM.numV 34 (s, bad) = M := ⟨_, rfl⟩
  have eV : atoiV A = M := by rw [← hM, numV_eq, hA]
  have eE : FM.numE 34 (s, bad) = (B, bad || !FM.isOk (Lib.atoiAll A)) := by unfold FM.numE; rw [hA, hB]
  rw [eE, hM]
  dsimp only
  obtain ⟨K, hK⟩ : ∃ K, FM.isOk (Lib.atoiAll A) = K := ⟨_, rfl⟩
  have hAl : A.length ≤ s.length := by rcases hix with ⟨_, rfl, _⟩ | ⟨_, h, _⟩ <;> omega
  have hat := fun W (hW : Below w.heap.size w W) => atoi_any A (by omega) W (hE.below hW)
  rw [eV, hK] at hat
  rw [hK]
  clear eE eV hM hK hA hB hE
  obtain ⟨cv, Y0, hcv, hy0, hrow, hlt, _⟩ := conv_room (P := Tryz.prog) w 9 22 5 s Tryz.underlying9 Tryz.underlying22 Tryz.underlying5
  have hidx := index_any34 s w.heap.size cv Y0 hlt hrow (by omega)
  replace hrow := Lib.hid hrow
  have hbB := Lib.hid (fun W (hW : Below w.heap.size w W) => hb.below hW)
  have c0 : w.cell? ⟨p, 0, none⟩ = some (strV s) := hb.cell 0
  have c1 : w.cell? ⟨p, 1, none⟩ = some (.bool bad) := hb.cell 1
  have d0 : Y0.cell? ⟨p, 0, none⟩ = some (strV s) := (hb.below hy0).cell 0
  have hpl := hb.lt
  have hsz : (⟨s.toArray⟩ : ByteArray).size = s.length := ba_size s
  have hdone := Lib.hid (fun Y2 (h2 : Below w.heap.size w Y2) (x : Bool) => (⟨((hb.below h2).set 1 (.bool x)).set 0 (strV B), ((Only.of_below (S := fun k => k = p) h2).setCell (p := ⟨p, 1, none⟩) rfl _).setCell (p := ⟨p, 0, none⟩) rfl _⟩ : Blk ((Y2.setCell ⟨p, 1, none⟩ (.bool x)).setCell ⟨p, 0, none⟩ (strV B)) p 75 [strV B, .bool x] ∧ Only (fun k => k = p) w ((Y2.setCell ⟨p, 1, none⟩ (.bool x)).setCell ⟨p, 0, none⟩ (strV B))))
  clear hb
  rcases hix with ⟨hI, hAs, hBs⟩ | ⟨hI, hlt2, hAt, hBd⟩
  · have hx0 : (⟨s.toArray⟩ : ByteArray).extract 0 s.length = ⟨A.toArray⟩ := by rw [ext_list, hAs]; simp
    have hx1 : (⟨s.toArray⟩ : ByteArray).extract s.length s.length = ⟨B.toArray⟩ := by rw [ext_list, hBs]; simp
    rw [hI] at hidx
    subst hBs
    clear hAs hI
    replace hidx := Lib.hid hidx
    replace hat := Lib.hid hat
    go_enter Tryz.func34, Tryz.ntmps34
    go_upto_region 6 with (first
        | (go_at_call 60; (with_reducible refine hidx.out.mono ?_); rintro e Y1 ⟨rfl, hy1⟩; have hY1 := bl_trans hy0 hy1; have f0 : Y1.cell? ⟨p, 0, none⟩ = some (strV s) := (hbB.out _ hY1).cell 0)
        | (go_at_call 61; (with_reducible refine (hat.out _ hY1).mono ?_); rintro e Y2 ⟨te, pe, rfl, hy2⟩; have hY2 := bl_trans hY1 hy2; have g0 : Y2.cell? ⟨p, 0, none⟩ = some (strV s) := (hbB.out _ hY2).cell 0; have g1 := (hbB.out _ hY2).cell 1; simp only [List.getElem?_cons_zero, List.getElem?_cons_succ] at g1; have hfr := (hbB.out _ hY2).free; have hpl2 := (hbB.out _ hY2).lt))
    clear hidx hat hcv hbB hrow
    cases bad <;> cases K
    all_goals
      simp only [errI]
      go_wp2_with fail
      all_goals go_ret
      all_goals exact ⟨rfl, hdone.out _ hY2 _⟩
  · have hx0 : (⟨s.toArray⟩ : ByteArray).extract 0 A.length = ⟨A.toArray⟩ := by rw [ext_list, Nat.sub_zero, List.drop_zero, ← hAt]
    have hx1 : (⟨s.toArray⟩ : ByteArray).extract A.length s.length = ⟨B.toArray⟩ := by rw [ext_list, ← hBd, List.take_of_length_le (by rw [hBd]; simp)]
    rw [hI] at hidx
    clear hAt hBd hI
    have q0 : (0 : Int) ≤ (A.length : Int) := by omega
    have q1 : (A.length : Int) ≤ (s.length : Int) := by omega
    replace hidx := Lib.hid hidx
    replace hat := Lib.hid hat
    go_enter Tryz.func34, Tryz.ntmps34
    go_upto_region 6 with (first
        | (go_at_call 60; (with_reducible refine hidx.out.mono ?_); rintro e Y1 ⟨rfl, hy1⟩; have hY1 := bl_trans hy0 hy1; have f0 : Y1.cell? ⟨p, 0, none⟩ = some (strV s) := (hbB.out _ hY1).cell 0)
        | (go_at_call 61; (with_reducible refine (hat.out _ hY1).mono ?_); rintro e Y2 ⟨te, pe, rfl, hy2⟩; have hY2 := bl_trans hY1 hy2; have g0 : Y2.cell? ⟨p, 0, none⟩ = some (strV s) := (hbB.out _ hY2).cell 0; have g1 := (hbB.out _ hY2).cell 1; simp only [List.getElem?_cons_zero, List.getElem?_cons_succ] at g1; have hfr := (hbB.out _ hY2).free; have hpl2 := (hbB.out _ hY2).lt))
    clear hidx hat hcv hbB hrow
    cases bad <;> cases K
    all_goals
      simp only [errI]
      go_wp2_with fail
      all_goals go_ret
      all_goals exact ⟨rfl, hdone.out _ hY2 _⟩
end Go.Proofs.YtepdfkgadigafaaGreatDoor
/-
  reader.quote, of chapter 20.
  Conditions: as each theorem states them.
-/
namespace Go.Proofs.YtepdfkgadigafaaGreatDoor
open Go.RowKit Go.Sort
set_option linter.unusedVariables false
set_option linter.unusedSimpArgs false
theorem own_set {w : World} {base e k n : Nat} {v : Value} {xs : List Value} (h : w.ownsRow base e k v n xs) {p : Addr} (hp : p.block < base) (u : Value) : (w.setCell p u).ownsRow base e k v n xs := by
  obtain ⟨hl, h⟩ := h
  rcases h with ⟨rfl, rfl⟩ | ⟨g, cap, cur, rfl, hg, hb', hk, hc, hs, rfl⟩
  · exact ⟨hl, .inl ⟨rfl, rfl⟩⟩
  · exact ⟨hl, .inr ⟨g, cap, cur, rfl, hg, (Below.heap_setCell _ _ _ _ (by omega)).trans hb', hk, hc, hs, rfl⟩⟩
set_option maxHeartbeats 4000000 in
set_option maxRecDepth 100000 in
theorem rdquote_any (p : Nat) (s : List UInt8) (bad : Bool) (w : World) (hb : Blk w p 75 [strV s, .bool bad]) (hl : s.length ≤ 100000) :
    Calls Tryz.prog 35 #[.pointer (some ⟨p, 0, none⟩)] w fun e w' => ∃ v, e = .returned v ∧ w'.ownsRow w.heap.size 5 1 v (FM.quoV (s, bad)).length (Lib.byteCells (FM.quoV (s, bad))) ∧ Blk w' p 75 [strV (FM.quoE (s, bad)).1, .bool (FM.quoE (s, bad)).2] ∧ Only (fun k => k = p) w w' := by
  have hq := unquote_any s hl w
  have hbB := Lib.hid (fun W (hW : Below w.heap.size w W) => hb.below hW)
  have hpl := hb.lt
  have c0 : w.cell? ⟨p, 0, none⟩ = some (strV s) := hb.cell 0
  have hsz : (⟨s.toArray⟩ : ByteArray).size = s.length := ba_size s
  obtain ⟨R, hR⟩ : ∃ R, unquoteS s 0 = R := ⟨_, rfl⟩
  by_cases h0 : (unquoteS s 0).2.2 = 0
  · obtain ⟨b, hbe, hb1, hb2⟩ := unquote_range s 0 h0
    have hbe' : (unquoteS s 0).2.1 = (b : Int) := hbe
    have eV : FM.quoV (s, bad) = (unquoteS s 0).1 := by unfold FM.quoV; rw [if_pos h0]
    have eE : FM.quoE (s, bad) = (s.drop b, bad) := by
      unfold FM.quoE
      rw [if_pos h0]
      dsimp only
      rw [hbe', Int.toNat_natCast]
    have hx : (⟨s.toArray⟩ : ByteArray).extract b s.length = ⟨(s.drop b).toArray⟩ := by rw [ext_list, List.take_of_length_le (by simp)]
    rw [eV, eE]
    dsimp only
    unfold UnqIs at hq
    rw [hbe', h0] at hq
    obtain ⟨T, hT⟩ : ∃ T, (unquoteS s 0).1 = T := ⟨_, rfl⟩
    rw [hT] at hq ⊢
    clear hR hT hbe hbe' h0 eV eE
    have hdone := Lib.hid (fun Y2 (h2 : Below w.heap.size w Y2) => (⟨(hb.below h2).set 0 (strV (s.drop b)), (Only.of_below (S := fun k => k = p) h2).setCell (p := ⟨p, 0, none⟩) rfl _⟩ : Blk (Y2.setCell ⟨p, 0, none⟩ (strV (s.drop b))) p 75 [strV (s.drop b), .bool bad] ∧ Only (fun k => k = p) w (Y2.setCell ⟨p, 0, none⟩ (strV (s.drop b)))))
    clear hb
    replace hq := Lib.hid hq
    have q1 : (b : Int) ≤ (s.length : Int) := by omega
    generalize s.drop b = D at *
    go_enter Tryz.func35, Tryz.ntmps35
    go_wp2_with (go_at_call 62; (with_reducible refine hq.out.mono ?_); rintro e Y2 ⟨v, rfl, ho, hy2⟩; have g0 : Y2.cell? ⟨p, 0, none⟩ = some (strV s) := (hbB.out _ hy2).cell 0; have hfr := (hbB.out _ hy2).free; have hpl2 := (hbB.out _ hy2).lt; replace ho := Lib.hid ho)
    all_goals go_ret
    all_goals exact ⟨_, rfl, own_set ho.out hpl _, hdone.out _ hy2⟩
  · have eV : FM.quoV (s, bad) = [] := by unfold FM.quoV; rw [if_neg h0]
    have eE : FM.quoE (s, bad) = (s, true) := by unfold FM.quoE; rw [if_neg h0]
    rw [eV, eE]
    dsimp only
    unfold UnqIs at hq
    obtain ⟨E, hE⟩ : ∃ E, (unquoteS s 0).2.2 = E := ⟨_, rfl⟩
    rw [hE] at hq h0
    have q0 : (E != 0) = true := by simp [h0]
    have q1 : ¬ E = 0 := h0
    generalize (unquoteS s 0).2.1 = B1 at hq
    generalize (unquoteS s 0).1 = T at hq
    clear hR hE eV eE h0
    have hdone := Lib.hid (fun Y2 (h2 : Below w.heap.size w Y2) => (⟨(hb.below h2).set 1 (.bool true), (Only.of_below (S := fun k => k = p) h2).setCell (p := ⟨p, 1, none⟩) rfl _⟩ : Blk (Y2.setCell ⟨p, 1, none⟩ (.bool true)) p 75 [strV s, .bool true] ∧ Only (fun k => k = p) w (Y2.setCell ⟨p, 1, none⟩ (.bool true))))
    clear hb
    replace hq := Lib.hid hq
    go_enter Tryz.func35, Tryz.ntmps35
    go_wp2_with (go_at_call 62; (with_reducible refine hq.out.mono ?_); rintro e Y2 ⟨v, rfl, ho, hy2⟩; have g1 := (hbB.out _ hy2).cell 1; simp only [List.getElem?_cons_zero, List.getElem?_cons_succ] at g1; have hfr := (hbB.out _ hy2).free; have hpl2 := (hbB.out _ hy2).lt; replace ho := Lib.hid ho)
    all_goals go_ret
    all_goals exact ⟨_, rfl, World.ownsRow_nil _ _ _ _, hdone.out _ hy2⟩
end Go.Proofs.YtepdfkgadigafaaGreatDoor
/-
  truths, of chapter 20.
  Conditions: as each theorem states them.
-/
namespace Go.Proofs.YtepdfkgadigafaaGreatDoor
open Go.RowKit Go.Sort
set_option linter.unusedVariables false
set_option linter.unusedSimpArgs false
theorem truths_snoc {l : List UInt8} {k : Nat} (h : k < l.length) : (FM.truths (l.take (k + 1))).map Value.bool = (FM.truths (l.take k)).map Value.bool ++ [.bool (l[k] == 49)] := by
  unfold FM.truths
  rw [List.take_succ_eq_append_getElem h, List.map_append, List.map_append]
  rfl
theorem eq49 (c : UInt8) : ((c.toNat : Int) == 49) = (c == 49) := by
  by_cases h : c = 49
  · subst h; rfl
  · have h2 : c.toNat ≠ 49 := fun e => h (UInt8.toNat_inj.1 e)
    have h3 : ¬ (c.toNat : Int) = 49 := by omega
    rw [beq_eq_false_iff_ne.2 h3, beq_eq_false_iff_ne.2 h]
set_option maxHeartbeats 2000000 in
set_option maxRecDepth 100000 in
theorem truths_any (ba : Option Addr) (c : Nat) (xs : List UInt8) (w : World) (hl : xs.length ≤ 1000000) (h : ByAt (fun _ => True) false w ba xs) :
    Calls Tryz.prog 32 #[.slice ba xs.length c] w fun e w' => ∃ v, e = .returned v ∧ w'.ownsRow w.heap.size 4 1 v (FM.truths xs).length ((FM.truths xs).map Value.bool) ∧ Below w.heap.size w w' := by
  obtain ⟨i0, hi, hz0, hz1, hz2⟩ := info_parts' info_bools
  have htl : (FM.truths xs).length = xs.length := by simp [FM.truths]
  rw [htl]
  replace h := Lib.hid h
  go_enter Tryz.func32, Tryz.ntmps32
  go_wp2_with fail
  go_loopw [3, 8] (fun v i wr => ∃ k : Nat, k ≤ xs.length ∧ i = .int .i64 (k : Int) ∧ wr.ownsRow w.heap.size 4 1 v k ((FM.truths (xs.take k)).map Value.bool) ∧ Below w.heap.size w wr) (fun _ i _ => xs.length - (intOf i).toNat)
  case atStart => exact ⟨0, by omega, rfl, World.ownsRow_nil _ _ _ _, Below.refl _ _⟩
  case round =>
    obtain ⟨k, hk, rfl, hown, hnx⟩ := hrel
    have hsize := hnx.size
    by_cases hlt : k < xs.length
    · obtain ⟨b, o, rfl, c1⟩ := (h.out.below hnx).cell hlt
      have hsn := Lib.hid (truths_snoc hlt)
      have e9 := eq49 xs[k]
      generalize xs[k] = z at *
      go_wp2_with (at_builtin; refine wpList_append_own _ rfl (.tmp 12) (.tmp 15) 30 rfl w.heap.size 4 i0 (.bool false) 1 1 Tryz.underlying30 hi hz0 hz1 hz2 rfl (by decide) _ _ _ rfl (hown.alloc _) ⟨_, 0, none⟩ 1 1 [.bool (z == 49)] rfl (by first | rfl | (rw [← e9]; rfl)) (cell_one_new _ _ _) (by intro u hu; simp at hu; subst hu; rfl) (by unfold maxLen; omega) (by omega) (by simp; omega) ?_; intro v1 w1 hown1 hgrow1 hnil1)
      all_goals go_roundw
      case rel => exact ⟨k + 1, by omega, by go_num, by rw [hsn.out]; exact hown1, (hnx.alloc (by omega) _).grown hgrow1 (by simp; omega) (fun j hj => (hown.lt j hj).1)⟩
      case measure => simp [intOf]; omega
    · obtain rfl : k = xs.length := by omega
      rw [List.take_length] at hown
      go_wp2_with fail
      all_goals go_ret
      all_goals exact ⟨_, rfl, hown, hnx⟩
end Go.Proofs.YtepdfkgadigafaaGreatDoor
/-
  the closure next, of chapter 20.
  Conditions: as each theorem states them.
-/
namespace Go.Proofs.YtepdfkgadigafaaGreatDoor
open Go.RowKit Go.Sort
set_option linter.unusedVariables false
set_option linter.unusedSimpArgs false
set_option maxHeartbeats 4000000 in
set_option maxRecDepth 100000 in
theorem next_any (q p : Nat) (s : List UInt8) (bad : Bool) (w : World) (hqb : Blk w q 73 [.pointer (some ⟨p, 0, none⟩)]) (hb : Blk w p 75 [strV s, .bool bad]) (hpq : p ≠ q) (hl : s.length ≤ 100000) (hE : ErrAt w) :
    Calls Tryz.prog 33 #[.pointer (some ⟨q, 0, none⟩)] w fun e w' => e = .returned (.int .i64 (FM.numV 32 (s, bad))) ∧ Blk w' p 75 [strV (FM.nextE (s, bad)).1, .bool (FM.nextE (s, bad)).2] ∧ Only (fun k => k = p) w w' := by
  have hn := number_any32 p s bad w hb hl hE
  have eE : FM.nextE (s, bad) = ((FM.numE 32 (s, bad)).1.drop 1, (FM.numE 32 (s, bad)).2) := rfl
  have hBl : (FM.numE 32 (s, bad)).1.length ≤ s.length := FM.behind_le 32 s
  rw [eE]
  dsimp only
  obtain ⟨M, hM⟩ : ∃ M, FM.numV 32 (s, bad) = M := ⟨_, rfl⟩
  obtain ⟨Z, hZ⟩ : ∃ Z, (FM.numE 32 (s, bad)).2 = Z := ⟨_, rfl⟩
  obtain ⟨B, hB⟩ : ∃ B, (FM.numE 32 (s, bad)).1 = B := ⟨_, rfl⟩
  rw [hM, hZ, hB] at hn
  rw [hM, hZ, hB]
  rw [hB] at hBl
  have hqn := Lib.hid (fun w' (h : Only (fun k => k = p) w w') => hqb.only h (fun e => hpq e.symm))
  have q0 : w.cell? ⟨q, 0, none⟩ = some (.pointer (some ⟨p, 0, none⟩)) := hqb.cell 0
  clear eE hM hZ hB hE hqb hb
  replace hn := Lib.hid hn
  cases B with
  | nil =>
    go_enter Tryz.func33, Tryz.ntmps33
    go_wp2_with (go_at_call 34; (with_reducible refine hn.out.mono ?_); rintro e w2 ⟨rfl, hb2, ho2⟩; have g0 : w2.cell? ⟨q, 0, none⟩ = some (.pointer (some ⟨p, 0, none⟩)) := (hqn.out _ ho2).cell 0; have g1 : w2.cell? ⟨p, 0, none⟩ = some (strV []) := hb2.cell 0; replace hb2 := Lib.hid hb2; replace ho2 := Lib.hid ho2)
    all_goals go_ret
    all_goals exact ⟨rfl, hb2.out, ho2.out⟩
  | cons c r =>
    have hsz : (⟨(c :: r).toArray⟩ : ByteArray).size = r.length + 1 := by rw [ba_size]; rfl
    have hx : (⟨(c :: r).toArray⟩ : ByteArray).extract 1 (r.length + 1) = ⟨r.toArray⟩ := by rw [ext_list, List.take_of_length_le (by simp)]; rfl
    have q1 : ¬ ((r.length : Int) + 1 < 1) := by omega
    have hl1 : r.length + 1 ≤ 100000 := by simpa using Nat.le_trans hBl hl
    go_enter Tryz.func33, Tryz.ntmps33
    go_upto_region 3 with (go_at_call 34; (with_reducible refine hn.out.mono ?_); rintro e w2 ⟨rfl, hb2, ho2⟩; have g0 : w2.cell? ⟨q, 0, none⟩ = some (.pointer (some ⟨p, 0, none⟩)) := (hqn.out _ ho2).cell 0; have g1 : w2.cell? ⟨p, 0, none⟩ = some (strV (c :: r)) := hb2.cell 0; have hfr := hb2.free; have hpl2 := hb2.lt; replace hb2 := Lib.hid hb2; replace ho2 := Lib.hid ho2)
    have hC : w2.drew.cell? ⟨q, 0, none⟩ = some (.pointer (some ⟨p, 0, none⟩)) ∧ w2.drew.cell? ⟨p, 0, none⟩ = some (strV (c :: r)) := ⟨g0, g1⟩
    refine region_till (fun X => X.cell? ⟨q, 0, none⟩ = some (.pointer (some ⟨p, 0, none⟩)) ∧ X.cell? ⟨p, 0, none⟩ = some (strV (c :: r))) 8 (by kernel_rfl) ?_
    refine wpAnyT_take (i := 0) (v := (.pointer (some ⟨p, 0, none⟩))) (some 10) rfl (by kernel_rfl) (by kernel_rfl) (by kernel_rfl) (by kernel_rfl) (fun _ _ _ h => absurd h np_panic) [8] (by kernel_rfl) (by kernel_rfl) (by kernel_rfl) (Or.inl ⟨by rfl, ?_⟩) hC ?_
    · intro X hX
      (obtain ⟨x0, x1⟩ := hX; go_simp)
    simp only [Act.put, List.setIfInBounds_toArray, List.set_cons_zero, List.set_cons_succ]
    refine wpAnyT_take (i := 1) (v := (.pointer (some ⟨p, 0, none⟩))) (some 11) rfl (by kernel_rfl) (by kernel_rfl) (by kernel_rfl) (by kernel_rfl) (fun _ _ _ h => absurd h np_panic) [8] (by kernel_rfl) (by kernel_rfl) (by kernel_rfl) (Or.inl ⟨by rfl, ?_⟩) hC ?_
    · intro X hX
      (obtain ⟨x0, x1⟩ := hX; go_simp)
    simp only [Act.put, List.setIfInBounds_toArray, List.set_cons_zero, List.set_cons_succ]
    refine wpAnyT_take (i := 2) (v := (.pointer (some ⟨p, 0, none⟩))) (some 12) rfl (by kernel_rfl) (by kernel_rfl) (by kernel_rfl) (by kernel_rfl) (fun _ _ _ h => absurd h np_panic) [8] (by kernel_rfl) (by kernel_rfl) (by kernel_rfl) (Or.inl ⟨by rfl, ?_⟩) hC ?_
    · intro X hX
      (obtain ⟨x0, x1⟩ := hX; go_simp)
    simp only [Act.put, List.setIfInBounds_toArray, List.set_cons_zero, List.set_cons_succ]
    refine wpAnyT_take (i := 3) (v := (.pointer (some ⟨p, 0, none⟩))) (some 13) rfl (by kernel_rfl) (by kernel_rfl) (by kernel_rfl) (by kernel_rfl) (fun _ _ _ h => absurd h np_panic) [8] (by kernel_rfl) (by kernel_rfl) (by kernel_rfl) (Or.inl ⟨by rfl, ?_⟩) hC ?_
    · intro X hX
      (obtain ⟨x0, x1⟩ := hX; go_simp)
    simp only [Act.put, List.setIfInBounds_toArray, List.set_cons_zero, List.set_cons_succ]
    refine wpAnyT_take (i := 4) (v := (strV (c :: r))) (some 14) rfl (by kernel_rfl) (by kernel_rfl) (by kernel_rfl) (by kernel_rfl) (fun _ _ _ h => absurd h np_panic) [8] (by kernel_rfl) (by kernel_rfl) (by kernel_rfl) (Or.inl ⟨by rfl, ?_⟩) hC ?_
    · intro X hX
      (obtain ⟨x0, x1⟩ := hX; go_simp)
    simp only [Act.put, List.setIfInBounds_toArray, List.set_cons_zero, List.set_cons_succ]
    refine wpAnyT_take (i := 5) (v := (strV r)) (some 15) rfl (by kernel_rfl) (by kernel_rfl) (by kernel_rfl) (by kernel_rfl) (fun _ _ _ h => absurd h np_panic) [8] (by kernel_rfl) (by kernel_rfl) (by kernel_rfl) (Or.inl ⟨by rfl, ?_⟩) hC ?_
    · intro X hX
      (obtain ⟨x0, x1⟩ := hX; go_simp)
    simp only [Act.put, List.setIfInBounds_toArray, List.set_cons_zero, List.set_cons_succ]
    refine wpAnyT_take (i := 6) (v := (.pointer (some ⟨p, 0, none⟩))) (some 16) rfl (by kernel_rfl) (by kernel_rfl) (by kernel_rfl) (by kernel_rfl) (fun _ _ _ h => absurd h np_panic) [7, 8] (by kernel_rfl) (by kernel_rfl) (by kernel_rfl) (Or.inl ⟨by rfl, ?_⟩) hC ?_
    · intro X hX
      (obtain ⟨x0, x1⟩ := hX; go_simp)
    simp only [Act.put, List.setIfInBounds_toArray, List.set_cons_zero, List.set_cons_succ]
    refine wpAnyT_take (i := 7) (v := (.pointer (some ⟨p, 0, none⟩))) (some 17) rfl (by kernel_rfl) (by kernel_rfl) (by kernel_rfl) (by kernel_rfl) (fun _ _ _ h => absurd h np_panic) [8] (by kernel_rfl) (by kernel_rfl) (by kernel_rfl) (Or.inl ⟨by rfl, ?_⟩) hC ?_
    · intro X hX
      (obtain ⟨x0, x1⟩ := hX; go_simp)
    simp only [Act.put, List.setIfInBounds_toArray, List.set_cons_zero, List.set_cons_succ]
    refine wpAnyT_ready (rs := [8]) (by kernel_rfl) (by simp) ?_
    refine AllT.cons rfl (fun K hK => ?_) AllT.nil
    have hC8 := hC.2
    have hfr8 : ∀ j, w2.drew.frozen? ⟨p, j, none⟩ = false := hfr
    go_simp
    refine hK.out _ _ (fun h => nomatch (Eq.trans (by kernel_rfl : true = _) h : true = false)) ?_
    clear hK K
    try simp only [Act.put, List.setIfInBounds_toArray, List.set_cons_zero, List.set_cons_succ]
    refine wpAnyT_done (by kernel_rfl) ⟨rfl, ?_⟩ _
    have hE1 : Blk (w2.drew.setCell ⟨p, 0, none⟩ (strV r)) p 75 [strV r, .bool Z] := (hb2.out.drew).set 0 (strV r)
    have hE2 : Only (fun k => k = p) w (w2.drew.setCell ⟨p, 0, none⟩ (strV r)) := (ho2.out.drew).setCell (p := ⟨p, 0, none⟩) rfl _
    go_wp2_with fail
    all_goals go_ret
    all_goals exact ⟨rfl, hE1, hE2⟩
end Go.Proofs.YtepdfkgadigafaaGreatDoor
