/-
  CondSigns: the walk; of chapter 27.
  Conditions: as each theorem states them.
-/
import Derived.Test.YtlaafamodaogmaaCondSd
import Derived.Test.YtlaafamodaogmaaCutQ
import Derived.Deep.DeepCutAuto
import Derived.Deep.RegionHeld3
namespace Go.Proofs.Ytlaafamodaogmaa
open Go.RowKit
set_option linter.unusedVariables false
set_option linter.unusedSimpArgs false
attribute [local go_sem ↓] load_st
/-- the state that CondSigns makes -/
def zh (ba : Option Addr) (n c : Nat) (L : Int) : StC := { z0 with hold := ⟨ba, n, c⟩, line := L }
noncomputable def stStore (a : Addr) (v : Value) : Sem Unit := storeVar 34 a v
theorem store_st (a : Addr) (v : Value) : storeVar 34 a v = stStore a v := rfl
theorem modify_same {A : Array Obj} {n : Nat} {f : Obj → Obj} {o : Obj} (h1 : A[n]? = some o) (h2 : f o = o) : A.modify n f = A := by
  apply Array.ext
  · simp
  · intro i hi hi2
    rw [Array.getElem_modify]
    split
    · rename_i e
      subst e
      rw [(Array.getElem?_eq_some_iff.1 h1).2, h2]
    · rfl
set_option maxRecDepth 100000 in
theorem stStore_new (w : World) (g : Nat) (hg : g = w.heap.size) (C : List Value) (hC : C = z0.cells) :
    (stStore ⟨g, 0, none⟩ (.agg C.toArray)).run Try.prog (w.alloc (.cells C.toArray 34)) = .ok () (w.alloc (.cells C.toArray 34)) := by
  subst hg
  have := run_storeVar_row (P := Try.prog) (w.alloc (.cells C.toArray 34)) w.heap.size 34 34 C.toArray C.toArray (heap_alloc_new w _) (by subst hC; kernel_rfl) rfl (by subst hC; kernel_rfl)
  unfold stStore
  refine this.trans ?_
  refine congrArg (Result.ok ()) ?_
  unfold World.setRow
  rw [modify_same (heap_alloc_new w _) rfl]
attribute [local go_sem ↓] store_st run_cut_lh
set_option maxHeartbeats 8000000 in
set_option maxRecDepth 100000 in
theorem condSigns_list (L N fr tt : Nat) (hL : L < 65536) (hN : N < 65536) (hfr : fr < 256) (hto : tt < 256) (ba : Option Addr) (bc : Nat) (b : List UInt8) (W : World) (hl : b.length ≤ 9223372036854775807) (hlc : b.length ≤ bc) (hb : BytesAt W ba b) (hm : MxAt W) :
    Calls Try.prog 4 #[.int .u16 (L : Int), .int .u16 (N : Int), .slice ba b.length bc, .int .u8 (fr : Int), .int .u8 (tt : Int)] W fun e w' => e = .returned (.bool true) ∧ Below W.heap.size W w' := by
  have haw := Lib.hid (fun w' (hw : Below W.heap.size W w') => (awake27 w' (hm.below hw)).mono (R' := fun e w2 => e = .returned (.bool true) ∧ Below W.heap.size W w2) (fun e w2 he => ⟨he.1, bl_trans hw he.2⟩))
  by_cases h100 : 100 < b.length
  · have q0 : decide ((100 : Int) < b.length) = true := by rw [decide_eq_true_eq]; omega
    replace hb := Lib.hid hb
    replace hm := Lib.hid hm
    go_enter Try.func4, Try.ntmps4
    go_wp2_with (go_at_call 10; refine (haw.out _ (bl_alloc (Below.refl _ _) _)).mono ?_; rintro e w2 ⟨rfl, hb2⟩)
    go_ret
    exact ⟨rfl, hb2⟩
  · have q0 : decide ((100 : Int) < b.length) = false := by rw [decide_eq_false_iff_not]; omega
    have hwl : IntKind.i64.wrap (L : Int) = L := IntWalk.i64_in _ (by omega)
    replace hb := Lib.hid hb
    replace hm := Lib.hid hm
    go_enter Try.func4, Try.ntmps4
    go_upto_region 4 with fail
    generalize hg : W.heap.size + 1 = g
    generalize hW1 : World.alloc (World.alloc W _) _ = W1
    have hB1 : Blk W1 g 34 z0.cells := by rw [← hW1, ← hg]; have := Blk.new (W.alloc (.cells #[.int .u16 (N : Int)] 43)) 34 z0.cells; rw [size_alloc] at this; exact this
    have hN1 : Blk W1 W.heap.size 43 [.int .u16 (N : Int)] := by rw [← hW1]; exact (Blk.new W _ _).alloc _
    have hb1 : Below W.heap.size W W1 := by rw [← hW1]; exact bl_alloc (bl_alloc (Below.refl _ _) _) _
    have hS2 := (hB1.set 3 (.int .i64 (L : Int))).set 1 (.slice ba b.length bc)
    have x3 : W1.cell? ⟨g, 3, none⟩ = some (.int .i64 0) := hB1.cell 3
    have y3 : W1.frozen? ⟨g, 3, none⟩ = false := hB1.free 3
    have x1 : W1.cell? ⟨g, 1, none⟩ = some (.slice none 0 0) := hB1.cell 1
    have y1 : W1.frozen? ⟨g, 1, none⟩ = false := hB1.free 1
    have gl := hB1.lt
    have hb2 : Below W.heap.size W ((W1.setCell ⟨g, 3, none⟩ (.int .i64 (L : Int))).setCell ⟨g, 1, none⟩ (.slice ba b.length bc)) := bl_setCell (bl_setCell hb1 (by show W.heap.size ≤ g; omega) _) (by show W.heap.size ≤ g; omega) _
    have hN2 : Blk ((W1.setCell ⟨g, 3, none⟩ (.int .i64 (L : Int))).setCell ⟨g, 1, none⟩ (.slice ba b.length bc)) W.heap.size 43 [.int .u16 (N : Int)] := (hN1.set_other (p := ⟨g, 3, none⟩) (by show g ≠ _; omega) _).set_other (p := ⟨g, 1, none⟩) (by show g ≠ _; omega) _
    replace hS2 := Lib.hid hS2
    replace hb2 := Lib.hid hb2
    replace hN2 := Lib.hid hN2
    replace hB1 := Lib.hid hB1
    replace hg := Lib.hid hg
    clear hW1 hN1 hb1
    go_upto_region 6 with fail
    generalize hW2 : World.setCell (World.setCell W1 _ _) _ _ = W2
    rw [hW2] at hS2 hb2 hN2
    clear hW2 x3 y3 x1 y1 gl hB1
    have hst := stStore_new W2 W2.heap.size rfl z0.cells rfl
    unfold z0 StC.cells n3 Sl3.v at hst
    go_upto_region 7 with fail
    clear hst
    generalize hk : W2.heap.size = k
    generalize hW3 : World.alloc W2 _ = W3
    have hK3 : Blk W3 k 34 z0.cells := by rw [← hW3, ← hk]; exact Blk.new W2 34 z0.cells
    have hS3 : Blk W3 g 34 (zh ba b.length bc L).cells := by rw [← hW3]; exact hS2.out.alloc _
    have hN3 : Blk W3 W.heap.size 43 [.int .u16 (N : Int)] := by rw [← hW3]; exact hN2.out.alloc _
    have hb3 : Below W.heap.size W W3 := by rw [← hW3]; exact bl_alloc hb2.out _
    replace hK3 := Lib.hid hK3
    replace hS3 := Lib.hid hS3
    replace hN3 := Lib.hid hN3
    replace hb3 := Lib.hid hb3
    clear hW3 hk hS2 hN2 hb2
    go_upto_region 8 with fail
    have hzs : StSv W3 z0 v0 := z0_sv W3
    have hhs : StSv W3 (zh ba b.length bc L) { v0 with line := (L : Int), hold := b } := ⟨rfl, rfl, rfl, rfl, .nil W3, ⟨rfl, hlc, hb.out.below hb3.out, by show b.length ≤ 100000; omega⟩, .nil W3, .nil W3, rfl, rfl, rfl, rfl, rfl, rfl⟩
    have hcl := Lib.hid (fun (A sg : List UInt8) (hA : A ∈ CM.sgA) (hs : A.filter (fun x => x != 32) = sg) w' (hw : Below W3.heap.size W3 w') =>
      (sign_any A sg hA hs N hN W.heap.size k g z0 (zh ba b.length bc L) v0 { v0 with line := (L : Int), hold := b } w' ((hN3.out.below hw).cell 0) (hN3.out.below hw).lt (hK3.out.below hw) (hS3.out.below hw) (hzs.below hw) (hhs.below hw) ((hm.out.below hb3.out).below hw)).mono (R' := fun e w2 => e = .returned (.bool (CM.signOf sg (L : Int) N)) ∧ Below W3.heap.size W3 w2) (fun e w2 he => ⟨he.1, bl_trans hw he.2⟩))
    obtain ⟨b1, hb1⟩ : ∃ x, decide ((L : Int) < N) = x := ⟨_, rfl⟩
    obtain ⟨b2, hb2⟩ : ∃ x, ((L : Int) == N) = x := ⟨_, rfl⟩
    obtain ⟨b3, hb3'⟩ : ∃ x, decide ((N : Int) < L) = x := ⟨_, rfl⟩
    obtain ⟨f1, f2, f3, f4, f5, f6⟩ := CM.sign_facts (L : Int) N
    rw [hb1] at f1 f5
    rw [hb2] at f2 f6
    rw [hb3'] at f3 f4
    have c1 := Lib.hid (fun w' (hw : Below W3.heap.size W3 w') => (by have := hcl.out [60] [60] (by simp [CM.sgA]) rfl w' hw; rw [f1] at this; exact this : Calls Try.prog 13 #[.string ⟨#[60]⟩, .pointer (some ⟨W.heap.size, 0, none⟩), .pointer (some ⟨k, 0, none⟩), .pointer (some ⟨g, 0, none⟩)] w' fun e w2 => e = .returned (.bool (b1)) ∧ Below W3.heap.size W3 w2))
    have c2 := Lib.hid (fun w' (hw : Below W3.heap.size W3 w') => (by have := hcl.out [32, 61, 32] [61] (by simp [CM.sgA]) rfl w' hw; rw [f2] at this; exact this : Calls Try.prog 13 #[.string ⟨#[32, 61, 32]⟩, .pointer (some ⟨W.heap.size, 0, none⟩), .pointer (some ⟨k, 0, none⟩), .pointer (some ⟨g, 0, none⟩)] w' fun e w2 => e = .returned (.bool (b2)) ∧ Below W3.heap.size W3 w2))
    have c3 := Lib.hid (fun w' (hw : Below W3.heap.size W3 w') => (by have := hcl.out [32, 62] [62] (by simp [CM.sgA]) rfl w' hw; rw [f3] at this; exact this : Calls Try.prog 13 #[.string ⟨#[32, 62]⟩, .pointer (some ⟨W.heap.size, 0, none⟩), .pointer (some ⟨k, 0, none⟩), .pointer (some ⟨g, 0, none⟩)] w' fun e w2 => e = .returned (.bool (b3)) ∧ Below W3.heap.size W3 w2))
    have c4 := Lib.hid (fun w' (hw : Below W3.heap.size W3 w') => (by have := hcl.out [60, 61] [60, 61] (by simp [CM.sgA]) rfl w' hw; rw [f4] at this; exact this : Calls Try.prog 13 #[.string ⟨#[60, 61]⟩, .pointer (some ⟨W.heap.size, 0, none⟩), .pointer (some ⟨k, 0, none⟩), .pointer (some ⟨g, 0, none⟩)] w' fun e w2 => e = .returned (.bool (!b3)) ∧ Below W3.heap.size W3 w2))
    have c5 := Lib.hid (fun w' (hw : Below W3.heap.size W3 w') => (by have := hcl.out [62, 61, 32] [62, 61] (by simp [CM.sgA]) rfl w' hw; rw [f5] at this; exact this : Calls Try.prog 13 #[.string ⟨#[62, 61, 32]⟩, .pointer (some ⟨W.heap.size, 0, none⟩), .pointer (some ⟨k, 0, none⟩), .pointer (some ⟨g, 0, none⟩)] w' fun e w2 => e = .returned (.bool (!b1)) ∧ Below W3.heap.size W3 w2))
    have c6 := Lib.hid (fun w' (hw : Below W3.heap.size W3 w') => (by have := hcl.out [33, 61] [33, 61] (by simp [CM.sgA]) rfl w' hw; rw [f6] at this; exact this : Calls Try.prog 13 #[.string ⟨#[33, 61]⟩, .pointer (some ⟨W.heap.size, 0, none⟩), .pointer (some ⟨k, 0, none⟩), .pointer (some ⟨g, 0, none⟩)] w' fun e w2 => e = .returned (.bool (!b2)) ∧ Below W3.heap.size W3 w2))
    have hNx := Lib.hid (fun w' (hw : Below W3.heap.size W3 w') => (hN3.out.below hw).cell 0)
    have hSv := Lib.hid (fun w' (hw : Below W3.heap.size W3 w') => (⟨hzs.below hw, hhs.below hw, (hm.out.below hb3.out).below hw⟩ : StSv w' z0 v0 ∧ StSv w' (zh ba b.length bc L) { v0 with line := (L : Int), hold := b } ∧ MxAt w'))
    obtain ⟨Ck, hCk⟩ : ∃ x, z0.cells.toArray = x := ⟨_, rfl⟩
    obtain ⟨Cs, hCs⟩ : ∃ x, (zh ba b.length bc L).cells.toArray = x := ⟨_, rfl⟩
    have hLd := Lib.hid (fun w' (hw : Below W3.heap.size W3 w') => (⟨hCk ▸ stLoad_is z0 (hK3.out.below hw), hCs ▸ stLoad_is _ (hS3.out.below hw)⟩ : (stLoad ⟨k, 0, none⟩).run Try.prog w' = .ok (.agg Ck) w' ∧ (stLoad ⟨g, 0, none⟩).run Try.prog w' = .ok (.agg Cs) w'))
    replace hCk := Lib.hid hCk
    replace hCs := Lib.hid hCs
    clear f1 f2 f3 f4 f5 f6 hcl hzs hhs
    replace hb1 : decide (L < N) = b1 := by rw [← hb1]; simp
    replace hb3' : decide (N < L) = b3 := by rw [← hb3']; simp
    have hbx : Below W3.heap.size W3 W3 := Below.refl _ _
    have n0 := hNx.out _ hbx
    simp only [List.getElem?_cons_zero] at n0 hNx
    have hE : Ent 13 := ent_at (by kernel_rfl)
    unfold Ent at hE
    go_cut [14, 15, 16] from 28 to 46 (fun s14 s15 s16 wx => s14 = .bool b1 ∧ s15 = .bool b2 ∧ s16 = .bool b3 ∧ Below W3.heap.size W3 wx)
    case first =>
      go_wp2_with (first | ((with_reducible refine (c1.out _ hbx).mono ?_); rintro e w4 ⟨rfl, hbx⟩) | ((with_reducible refine (c2.out _ hbx).mono ?_); rintro e w5 ⟨rfl, hbx⟩) | ((with_reducible refine (c3.out _ hbx).mono ?_); rintro e w6 ⟨rfl, hbx⟩))
      go_meet
      exact ⟨rfl, rfl, rfl, hbx⟩
    case rest =>
    obtain ⟨rfl, rfl, rfl, hbx⟩ := hcut
    obtain ⟨w6, hw6⟩ : ∃ w1 : World, w1 = wc := ⟨_, rfl⟩
    subst hw6
    have n3 := hNx.out _ hbx
    go_upto_region 11 with (first | ((with_reducible refine (c4.out _ hbx).mono ?_); rintro e w7 ⟨rfl, hbx⟩; have n4 := hNx.out _ hbx) | ((with_reducible refine (c5.out _ hbx).mono ?_); rintro e w8 ⟨rfl, hbx⟩; have n5 := hNx.out _ hbx) | ((with_reducible refine (c6.out _ hbx).mono ?_); rintro e w9 ⟨rfl, hbx⟩; have n6 := hNx.out _ hbx))
    have hb6 := Lib.hid hbx
    clear n0 n3 n4 n5 n6 c1 c2 c3 c4 c5 c6 hb1 hb2 hb3'
    have hlb : b.length ≤ 100 := by omega
    have hfr1 : (fr : Int) % ((b.length : Int) + 1) = ((fr % (b.length + 1) : Nat) : Int) := by simp
    have hpl : fr % (b.length + 1) ≤ b.length := by have := Nat.mod_lt fr (show 0 < b.length + 1 by omega); omega
    obtain ⟨pp, hpp⟩ : ∃ x, fr % (b.length + 1) = x := ⟨_, rfl⟩
    rw [hpp] at hfr1 hpl
    obtain ⟨qq, hqq⟩ : ∃ x, pp + tt % (b.length - pp + 1) = x := ⟨_, rfl⟩
    have hql : qq ≤ b.length := by have := Nat.mod_lt tt (show 0 < b.length - pp + 1 by omega); omega
    have hpq : pp ≤ qq := by omega
    have htt1 : (tt : Int) % ((b.length : Int) - (pp : Int) + 1) = ((tt % (b.length - pp + 1) : Nat) : Int) := by rw [Int.natCast_emod, show (((b.length - pp + 1 : Nat)) : Int) = (b.length : Int) - (pp : Int) + 1 by omega]
    have hqi : (pp : Int) + ((tt % (b.length - pp + 1) : Nat) : Int) = (qq : Int) := by omega
    have hmm : tt % (b.length - pp + 1) < b.length - pp + 1 := Nat.mod_lt _ (by omega)
    replace hpp := Lib.hid hpp
    replace hqq := Lib.hid hqq
    replace hfr1 := Lib.hid hfr1
    replace htt1 := Lib.hid htt1
    replace hqi := Lib.hid hqi
    go_cut [17] from 87 to 92 (fun s17 wx => s17 = .int .i64 (pp : Int) ∧ w9 = wx)
    case first =>
      go_wp2_with fail
      go_meet
      exact ⟨by rw [hfr1.out], rfl⟩
    case rest =>
    obtain ⟨rfl, rfl⟩ := hcut
    go_upto_region 12 with fail
    go_cut [18] from 93 to 102 (fun s18 wx => s18 = .int .i64 (qq : Int) ∧ w9 = wx)
    case first =>
      go_wp2_with fail
      go_meet
      exact ⟨by rw [htt1.out, hqi.out, show wrap64 ((qq : Nat) : Int) = (qq : Int) from IntWalk.wrap64_in _ (by omega)], rfl⟩
    case rest =>
    obtain ⟨rfl, rfl⟩ := hcut
    go_upto_region 13 with fail
    have hbW := Lib.hid (bl_trans hb3.out hb6.out)
    -- the three texts
    have hlp : ((b.drop pp).take (qq - pp)).length = qq - pp := by simp; omega
    have hp1 := CM.parse_is b hlb
    have hp2 := CM.parse_hasq ((b.drop pp).take (qq - pp)) (by omega)
    have hhp := CM.has_piece b pp qq hpq hql
    have hl1 := CM.quote_len b
    have hl2 : (SH.quoteS ((b.drop pp).take (qq - pp))).length ≤ 402 := by have := CM.quote_len ((b.drop pp).take (qq - pp)); omega
    have hba := hb.out
    have hq1 := Lib.hid (fun w' (hw : Below W.heap.size W w') => SH.rquote_any ba bc b w' (by omega) (hba.below hw))
    have hq2 := Lib.hid (fun w' (hw : Below W.heap.size W w') => (by have := SH.rquote_any (cutA ba pp bc 1) (bc - pp) ((b.drop pp).take (qq - pp)) w' (by omega) (((hba.drop hlc pp).take (qq - pp)).below hw); rw [hlp] at this; exact this : Calls Try.prog 15 #[.slice (cutA ba pp bc 1) (qq - pp) (bc - pp)] w' (SH.ByteIs (SH.quoteS ((b.drop pp).take (qq - pp))) w')))
    generalize (b.drop pp).take (qq - pp) = pc at *
    obtain ⟨S1, hS1⟩ : ∃ x, CM.hIs b = x := ⟨_, rfl⟩
    obtain ⟨S2, hS2⟩ : ∃ x, CM.hHas pc = x := ⟨_, rfl⟩
    have ha1 : (⟨#[104, 111, 108, 100, 32, 105, 115]⟩ : ByteArray) ++ ⟨(SH.quoteS b).toArray⟩ = ⟨S1.toArray⟩ := by rw [← hS1]; exact ba_add [104, 111, 108, 100, 32, 105, 115] _
    have ha2 : (⟨#[104, 111, 108, 100, 32, 104, 97, 115, 32]⟩ : ByteArray) ++ ⟨(SH.quoteS pc).toArray⟩ = ⟨S2.toArray⟩ := by rw [← hS2]; exact ba_add [104, 111, 108, 100, 32, 104, 97, 115, 32] _
    rw [hS1] at hp1
    rw [hS2] at hp2
    generalize SH.quoteS b = Q1 at *
    generalize SH.quoteS pc = Q2 at *
    have cP1 := Lib.hid (fun w' => (by have := cparse_any S1 w'; unfold ParseIs at this; rw [hp1] at this; exact this : Calls Try.prog 11 #[strV S1] w' fun e w2 => ∃ c, e = .returned (.tuple #[.pointer (some ⟨c, 0, none⟩), .int .i64 0, .int .i64 0]) ∧ CondIs w2 c S1 (fun _ now => now.hold == b) ∧ w'.heap.size ≤ c ∧ Below w'.heap.size w' w2))
    have cP2 := Lib.hid (fun w' => (by have := cparse_any S2 w'; unfold ParseIs at this; rw [hp2] at this; exact this : Calls Try.prog 11 #[strV S2] w' fun e w2 => ∃ c, e = .returned (.tuple #[.pointer (some ⟨c, 0, none⟩), .int .i64 0, .int .i64 0]) ∧ CondIs w2 c S2 (fun _ now => CM.hasS now.hold pc) ∧ w'.heap.size ≤ c ∧ Below w'.heap.size w' w2))
    have cP3 := Lib.hid (fun w' => (by have := cparse_any [104, 111, 108, 100, 32, 99, 104, 97, 110, 103, 101, 100] w'; unfold ParseIs at this; rw [CM.changed_hold] at this; exact this : Calls Try.prog 11 #[.string ⟨#[104, 111, 108, 100, 32, 99, 104, 97, 110, 103, 101, 100]⟩] w' fun e w2 => ∃ c, e = .returned (.tuple #[.pointer (some ⟨c, 0, none⟩), .int .i64 0, .int .i64 0]) ∧ CondIs w2 c [104, 111, 108, 100, 32, 99, 104, 97, 110, 103, 101, 100] (fun was now => !(was.hold == now.hold)) ∧ w'.heap.size ≤ c ∧ Below w'.heap.size w' w2))
    have hHo := Lib.hid (fun c t (phi : CM.M) w0 (hC : CondIs w0 c t phi) (h0 : Below W3.heap.size W3 w0) w' (hw : Below w0.heap.size w0 w') =>
      (by have h1 := hSv.out w' (bl_trans h0 hw); have h2 := holds_any (hC.below hw) h1.1 h1.2.1 h1.2.2; have h3 := holds_any (hC.below hw) h1.2.1 h1.2.1 h1.2.2; rw [hCk.out, hCs.out] at h2; rw [hCs.out] at h3; exact ⟨h2, h3⟩ : Calls Try.prog 12 #[.pointer (some ⟨c, 0, none⟩), .agg Ck, .agg Cs] w' (fun e w2 => e = .returned (.bool (phi v0 { v0 with line := (L : Int), hold := b })) ∧ Below w'.heap.size w' w2) ∧
        Calls Try.prog 12 #[.pointer (some ⟨c, 0, none⟩), .agg Cs, .agg Cs] w' (fun e w2 => e = .returned (.bool (phi { v0 with line := (L : Int), hold := b } { v0 with line := (L : Int), hold := b })) ∧ Below w'.heap.size w' w2)))
    have f1 : (b == b) = true := by simp
    have f4 : (!(b == b)) = false := by simp
    have f3 : (!(([] : List UInt8) == b)) = decide (0 < b.length) := by cases b <;> simp
    have z0' : (0 : Int) ≤ (pp : Int) := by omega
    have z1' : (pp : Int) ≤ (qq : Int) := by omega
    have z2' : (qq : Int) ≤ (bc : Int) := by omega
    clear hp1 hp2 hS1 hS2 hSv hba hb hlp
    go_cut [19, 20, 21] from 103 to 110 (fun s19 s20 s21 wx => ∃ c, s19 = .pointer (some ⟨c, 0, none⟩) ∧ s20 = .int .i64 0 ∧ s21 = .int .i64 0 ∧ Hid (CondIs wx c S1 (fun _ now => now.hold == b)) ∧ Hid (Below w9.heap.size w9 wx))
    case first =>
      have hbW' := hbW.out
      go_wp2_with (first
        | (go_at_call 15; (with_reducible refine (hq1.out _ hbW').mono ?_); rintro e w10 ⟨rfl, hb10⟩)
        | (go_at_call 11; (with_reducible refine (cP1.out _).mono ?_); rintro e w11 ⟨c, rfl, hC, _, hb11⟩))
      go_meet
      exact ⟨_, rfl, rfl, rfl, Lib.hid hC, Lib.hid (bl_trans hb10 hb11)⟩
    case rest =>
    obtain ⟨c1, rfl, rfl, rfl, hC1, hb11⟩ := hcut
    obtain ⟨w11, hw11⟩ : ∃ w1 : World, w1 = wc := ⟨_, rfl⟩
    subst hw11
    go_upto_region 14 with fail
    go_cut [22, 23, 24] from 111 to 121 (fun s19 s20 s21 wx => ∃ c, s19 = .pointer (some ⟨c, 0, none⟩) ∧ s20 = .int .i64 0 ∧ s21 = .int .i64 0 ∧ Hid (CondIs wx c S2 (fun _ now => CM.hasS now.hold pc)) ∧ Hid (Below w11.heap.size w11 wx))
    case first =>
      have hbW' := bl_trans hbW.out hb11.out
      go_wp2_with (first
        | (go_at_call 15; (with_reducible refine (hq2.out _ hbW').mono ?_); rintro e w12 ⟨rfl, hb12⟩)
        | (go_at_call 11; (with_reducible refine (cP2.out _).mono ?_); rintro e w13 ⟨c, rfl, hC, _, hb13⟩))
      go_meet
      exact ⟨_, rfl, rfl, rfl, Lib.hid hC, Lib.hid (bl_trans hb12 hb13)⟩
    case rest =>
    obtain ⟨c2, rfl, rfl, rfl, hC2, hb13⟩ := hcut
    obtain ⟨w13, hw13⟩ : ∃ w1 : World, w1 = wc := ⟨_, rfl⟩
    subst hw13
    go_upto_region 15 with fail
    go_cut [25, 26, 27] from 122 to 126 (fun s19 s20 s21 wx => ∃ c, s19 = .pointer (some ⟨c, 0, none⟩) ∧ s20 = .int .i64 0 ∧ s21 = .int .i64 0 ∧ Hid (CondIs wx c [104, 111, 108, 100, 32, 99, 104, 97, 110, 103, 101, 100] (fun was now => !(was.hold == now.hold))) ∧ Hid (Below w13.heap.size w13 wx))
    case first =>
      go_wp2_with (go_at_call 11; (with_reducible refine (cP3.out _).mono ?_); rintro e w14 ⟨c, rfl, hC, _, hb14⟩)
      go_meet
      exact ⟨_, rfl, rfl, rfl, Lib.hid hC, Lib.hid hb14⟩
    case rest =>
    obtain ⟨c3, rfl, rfl, rfl, hC3, hb14⟩ := hcut
    obtain ⟨w14, hw14⟩ : ∃ w1 : World, w1 = wc := ⟨_, rfl⟩
    subst hw14
    have hb3w := bl_trans hb6.out (bl_trans hb11.out (bl_trans hb13.out hb14.out))
    have cH1 := Lib.hid (fun w' (hw : Below w14.heap.size w14 w') => (by have := (hHo.out c1 S1 _ w11 hC1.out (bl_trans hb6.out hb11.out) w' (bl_trans (bl_trans hb13.out hb14.out) hw)).1; exact this.mono (fun e w2 he => ⟨by rw [he.1, f1], bl_trans hw he.2⟩) : Calls Try.prog 12 #[.pointer (some ⟨c1, 0, none⟩), .agg Ck, .agg Cs] w' (fun e w2 => e = .returned (.bool true) ∧ Below w14.heap.size w14 w2)))
    have cH2 := Lib.hid (fun w' (hw : Below w14.heap.size w14 w') => (by have := (hHo.out c2 S2 _ w13 hC2.out (bl_trans hb6.out (bl_trans hb11.out hb13.out)) w' (bl_trans hb14.out hw)).1; exact this.mono (fun e w2 he => ⟨by rw [he.1, hhp], bl_trans hw he.2⟩) : Calls Try.prog 12 #[.pointer (some ⟨c2, 0, none⟩), .agg Ck, .agg Cs] w' (fun e w2 => e = .returned (.bool true) ∧ Below w14.heap.size w14 w2)))
    have cH3 := Lib.hid (fun w' (hw : Below w14.heap.size w14 w') => (by have := (hHo.out c3 _ _ w14 hC3.out hb3w w' hw).1; exact this.mono (fun e w2 he => ⟨by rw [he.1]; show _ = Ending.returned (.bool (decide (0 < b.length))); rw [← f3]; rfl, bl_trans hw he.2⟩) : Calls Try.prog 12 #[.pointer (some ⟨c3, 0, none⟩), .agg Ck, .agg Cs] w' (fun e w2 => e = .returned (.bool (decide (0 < b.length))) ∧ Below w14.heap.size w14 w2)))
    have cH4 := Lib.hid (fun w' (hw : Below w14.heap.size w14 w') => (by have := (hHo.out c3 _ _ w14 hC3.out hb3w w' hw).2; exact this.mono (fun e w2 he => ⟨by rw [he.1, f4], bl_trans hw he.2⟩) : Calls Try.prog 12 #[.pointer (some ⟨c3, 0, none⟩), .agg Cs, .agg Cs] w' (fun e w2 => e = .returned (.bool false) ∧ Below w14.heap.size w14 w2)))
    have hL9 := Lib.hid (fun w' (hw : Below w14.heap.size w14 w') => hLd.out w' (bl_trans hb3w hw))
    obtain ⟨B, hB⟩ : ∃ B, decide (0 < b.length) = B := ⟨_, rfl⟩
    rw [hB] at cH3
    have hbx0 : Below w14.heap.size w14 w14 := Below.refl _ _
    have hWf := Lib.hid (bl_trans hb3.out hb3w)
    obtain ⟨L1, L2⟩ := hL9.out _ hbx0
    clear hHo hLd f1 f3 f4 hhp hb3w hbx
    go_wp2_with (first
      | (go_at_call 12; (first
        | ((with_reducible refine (cH1.out _ hbx0).mono ?_); rintro e w15 ⟨rfl, hbx1⟩; obtain ⟨L3, L4⟩ := hL9.out _ hbx1)
        | ((with_reducible refine (cH2.out _ hbx1).mono ?_); rintro e w16 ⟨rfl, hbx2⟩; obtain ⟨L5, L6⟩ := hL9.out _ hbx2)
        | ((with_reducible refine (cH3.out _ hbx2).mono ?_); rintro e w17 ⟨rfl, hbx3⟩; obtain ⟨L7, L8⟩ := hL9.out _ hbx3)
        | ((with_reducible refine (cH4.out _ hbx3).mono ?_); rintro e w18 ⟨rfl, hbx4⟩)))
      | (go_at_call 10; refine (haw.out _ (bl_trans hWf.out hbx4)).mono ?_; rintro e w19 ⟨rfl, hb19⟩))
    go_ret
    exact ⟨rfl, hb19⟩
end Go.Proofs.Ytlaafamodaogmaa
