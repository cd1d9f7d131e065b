/-
  'same' of chapter 25: the walk.
  Conditions: as each theorem states them.
-/
import Derived.Test.YtfidmpkblmebeaaSnP2
namespace Go.Proofs.Ytfidmpkblmebeaa
open Go.RowKit
set_option linter.unusedVariables false
set_option linter.unusedSimpArgs false
attribute [local go_sem ↓] load_st store_st
set_option maxHeartbeats 8000000 in
set_option maxRecDepth 100000 in
theorem same_any {w : World} {p mb n xb base B : Nat} {period : Int} {L LR : List (Int × StC)} {M : List (Int × StV)} (HC : CopyC) (hS : SnAt w p mb n period L) (hX : RefAt w xb base period LR) (h1 : Kept2 B w L M) (h2 : Kept2 B w LR M) (hl : L.length ≤ 100000) (k : Int) :
    Calls Try.prog 14 #[.pointer (some ⟨p, 0, none⟩), .pointer (some ⟨xb, 0, none⟩), .int .i64 k] w fun e w' => e = .returned (.bool true) ∧ Below w.heap.size w w' := by
  have hll : LR.length ≤ 100000 := by rw [h2.len, ← h1.len]; exact hl
  have h2X : ∀ X, Below w.heap.size w X → Rel2 (fun s V => SIn B w.heap.size s V X ∧ SmallV V) LR M := fun X hb => h2.mono fun a b h => ⟨h.1.below hb, h.2⟩
  have cA := look_in HC h1 (h1.ahead k) (fun Q hc => ahead_any hS hl k hc)
  have cAr := Lib.hid (fun X (hb : Below w.heap.size w X) => (rahead_any (hX.below hb) hll k).mono (fun e w' h => (⟨rlook_in hb.size ((h2X X hb).ahead k) h.1, h.2⟩ : LooksAt B w.heap.size X (SM.ahead M k) e ∧ Below X.heap.size X w')))
  have cB := Lib.hid (fun X (hb : Below w.heap.size w X) => look_in HC (h1.below hb) ((h1.below hb).behind k) (fun Q hc => behind_any (hS.below hb) hl k hc))
  have cBr := Lib.hid (fun X (hb : Below w.heap.size w X) => (rbehind_any (hX.below hb) hll k).mono (fun e w' h => (⟨rlook_in hb.size ((h2X X hb).behind k) h.1, h.2⟩ : LooksAt B w.heap.size X (SM.behind M k) e ∧ Below X.heap.size X w')))
  have sA := Lib.hid (opt_small (h1.ahead k))
  have sB := Lib.hid (opt_small (h1.behind k))
  have hw0 : 0 < w.heap.size := Nat.lt_of_le_of_lt (Nat.zero_le p) hS.blk.lt
  have hst := Lib.hid (fun X s => st_new X s)
  unfold LooksAt at cA cAr cB cBr
  obtain ⟨n1, hn1⟩ : ∃ n1, lkN (SM.ahead M k) = n1 := ⟨_, rfl⟩
  obtain ⟨b1, hb1⟩ : ∃ b1, (SM.ahead M k).isSome = b1 := ⟨_, rfl⟩
  obtain ⟨V1, hV1⟩ : ∃ V1, lkV (SM.ahead M k) = V1 := ⟨_, rfl⟩
  obtain ⟨n2, hn2⟩ : ∃ n2, lkN (SM.behind M k) = n2 := ⟨_, rfl⟩
  obtain ⟨b2, hb2⟩ : ∃ b2, (SM.behind M k).isSome = b2 := ⟨_, rfl⟩
  obtain ⟨V2, hV2⟩ : ∃ V2, lkV (SM.behind M k) = V2 := ⟨_, rfl⟩
  rw [hn1, hb1, hV1] at cA cAr
  rw [hV1] at sA
  rw [hn2, hb2, hV2] at cB cBr
  rw [hV2] at sB
  replace cA := Lib.hid cA
  have hc1 : (n1 != n1) = false := by simp
  have hc2 : (b1 != b1) = false := by simp
  have hc3 : (n2 == n2) = true := by simp
  have hc4 : (b2 == b2) = true := by simp
  clear hn1 hb1 hV1 hn2 hb2 hV2 hS hX h1 h2 h2X hl hll HC
  go_enter Try.func14, Try.ntmps14
  go_upto_region 2 with (go_at_call 15; (with_reducible refine cA.out.mono ?_); rintro e w2 ⟨⟨s1, rfl, hs1⟩, hbd1⟩; obtain ⟨C1, hC1⟩ : ∃ C1, s1.cells.toArray = C1 := ⟨_, rfl⟩; obtain ⟨w3, S3, hB3, hbd3⟩ := hst.out w2 s1; rw [hC1] at S3 ⊢)
  have hb13 := bl_trans hbd1 hbd3
  have hsz2 := hbd1.size
  have hl8 := hB3.lt
  obtain ⟨b8, hb8⟩ : ∃ b8, w2.heap.size = b8 := ⟨_, rfl⟩
  rw [hb8] at S3 hB3 hl8 hsz2 hs1 ⊢
  have hs13 := hs1.keep (KeepI.below hbd3 (Nat.le_of_eq hb8.symm))
  have hw23 : w2.heap.size ≤ w3.heap.size := hbd3.size
  rw [hb8] at hw23
  clear hs1 hbd1 hbd3 cA hb8
  have dA := Lib.hid (cAr.out w3 hb13)
  clear cAr
  go_upto_region 3 with (go_at_call 22; (with_reducible refine dA.out.mono ?_); rintro e w4 ⟨⟨s2, rfl, hs2⟩, hbd4⟩; obtain ⟨C2, hC2⟩ : ∃ C2, s2.cells.toArray = C2 := ⟨_, rfl⟩; obtain ⟨w5, S5, hB5, hbd5⟩ := hst.out w4 s2; rw [hC2] at S5 ⊢)
  have hb34 := bl_trans hbd4 hbd5
  have hb35 := bl_trans hb13 hb34
  have hl11 := hB5.lt
  have hsz4 := hbd4.size
  obtain ⟨b11, hb11⟩ : ∃ b11, w4.heap.size = b11 := ⟨_, rfl⟩
  rw [hb11] at S5 hB5 hl11 hsz4 ⊢
  have hs15 := hs13.keep (KeepI.below hb34 hs13.top)
  have hs25 := hs2.keep (KeepI.below hb34 hs2.top)
  have hB8 := hB3.below hb34
  have hl8' := hB8.lt
  have L8 := stLoad_is s1 hB8
  have L11 := stLoad_is s2 hB5
  rw [hC1] at L8
  rw [hC2] at L11
  have hsm := Lib.hid (same_sm hs15 hs25 sA.out)
  rw [hC1, hC2] at hsm
  have hne : b8 < b11 := Nat.lt_of_lt_of_le hl8 hsz4
  have hrow := Lib.hid (TxI.roww hs15.pat hw0)
  obtain ⟨pa, pn, pc, hpe⟩ : ∃ a n c, s1.pat = ⟨a, n, c⟩ := ⟨_, _, _, rfl⟩
  rw [hpe] at hrow
  have hpn : pn ≤ 2000 := by have h := hs15.pat.1; have h' := sA.out.pat; rw [hpe] at h; have h'' : pn = _ := h; omega
  have x8 : w5.cell? ⟨b8, 0, none⟩ = some (.slice pa pn pc) := by have := hB8.cell 0; rw [this]; simp [StC.cells, hpe]
  replace hB8 := Lib.hid hB8
  replace hB5 := Lib.hid hB5
  replace hb35 := Lib.hid hb35
  clear hs13 hs15 hs2 hs25 hb34 hb13 hB3 S3 hbd4 hbd5 dA hb11 hl8
  go_upto_region 5 with (go_at_call 23; (with_reducible refine hsm.out.mono ?_); rintro e w6 ⟨rfl, hbd6⟩)
  have hrow6 := Lib.hid (hrow.out.keep (KeepI.below hbd6 (Nat.le_of_lt hl8')))
  have x86 := (hbd6.cell (p := ⟨b8, 0, none⟩) hl8').trans x8
  have B86 := Lib.hid (hB8.out.below hbd6)
  have B56 := Lib.hid (hB5.out.below hbd6)
  have hb66 := bl_trans hb35.out hbd6
  clear hrow x8 hB8 hB5 hsm hbd6 L8 L11
  have hl8w := B86.out.lt
  have hl11w := B56.out.lt
  replace hb66 := Lib.hid hb66
  clear hl8' hl11 S5
  go_wp2_with fail
  go_loopg [13] pn (fun gh u wr => ∃ i : Nat, gh = pn - i ∧ u = .int .i64 (i : Int) ∧ i ≤ pn ∧ Hid (Only (fun b => w.heap.size ≤ b ∧ b < b8) w6 wr) ∧ Hid (RowW w.heap.size b8 pa pn wr))
  case atStart => exact ⟨0, rfl, rfl, Nat.zero_le _, Lib.hid (Only.refl _ _), hrow6⟩
  case round =>
    obtain ⟨i, rfl, rfl, hi, hO, hR⟩ := hrel
    have y8 : wr.cell? ⟨b8, 0, none⟩ = some (.slice pa pn pc) := (World.cell?_of_block (a := ⟨b8, 0, none⟩) (hO.out.block b8 hl8w (by show ¬ (w.heap.size ≤ b8 ∧ b8 < b8); omega))).trans x86
    have hl8r : b8 < wr.heap.size := Nat.lt_of_lt_of_le hl8w hO.out.size
    by_cases hlt : i < pn
    · obtain ⟨b, o, z, rfl, k1, k2, c, f⟩ := hR.out i hlt
      have hbl : b < wr.heap.size := Nat.lt_trans k2 hl8r
      have hit : (i : Int) < (pn : Int) := by omega
      have hi0 : (0 : Int) ≤ (i : Int) := by omega
      have hfin := Lib.hid (fun z' => (⟨hO.out.setCell (p := ⟨b, o + i, none⟩) ⟨k1, k2⟩ (.int .u8 z'), hR.out.set hlt z'⟩ : _ ∧ RowW w.heap.size b8 (some ⟨b, o, none⟩) pn (wr.setCell ⟨b, o + i, none⟩ (.int .u8 z'))))
      clear x86
      go_wp2_with fail
      go_roundg (pn - (i + 1))
      case measure => omega
      case rel => exact ⟨i + 1, rfl, by go_num, by omega, Lib.hid (hfin.out _).1, Lib.hid (hfin.out _).2⟩
    · obtain rfl : i = pn := by omega
      have hq1 : decide ((i : Int) < (i : Int)) = false := by simp
      have hbr := hb66.out.trans (hO.out.below hb66.out.size (fun k hk => hk.1))
      have B8r := B86.out.only hO.out (by show ¬ (w.heap.size ≤ b8 ∧ b8 < b8); omega)
      have B5r := B56.out.only hO.out (by show ¬ (w.heap.size ≤ b11 ∧ b11 < b8); omega)
      have hl11r := B5r.lt
      have dB := Lib.hid (cB.out wr hbr)
      replace hbr := Lib.hid hbr
      replace B8r := Lib.hid B8r
      replace B5r := Lib.hid B5r
      clear x86 hO hR hrow6 B86 B56 hl8w hl11w cB
      go_upto_region 10 with (go_at_call 16; (with_reducible refine dB.out.mono ?_); rintro e w7 ⟨⟨s3, rfl, hs3⟩, hbd7⟩; obtain ⟨C3, hC3⟩ : ∃ C3, s3.cells.toArray = C3 := ⟨_, rfl⟩; obtain ⟨w8, S8, hB9, hO8⟩ := stStore_is s3 (B8r.out.below hbd7) rfl; rw [hC3] at S8 ⊢)
      have hb78 : Below w.heap.size w w8 := (bl_trans hbr.out hbd7).trans (hO8.below (bl_trans hbr.out hbd7).size (fun k hk => by rw [hk]; omega))
      have hs38 := hs3.keep (KeepI.only hO8 (Nat.le_refl _) (fun k h1 h2 h3 => by have h3' : k = b8 := h3; omega))
      have hl8s : b8 < w8.heap.size := hB9.lt
      have B5s := (B5r.out.below hbd7).only hO8 (by show ¬ b11 = b8; omega)
      have dB2 := Lib.hid (cBr.out w8 hb78)
      replace hb78 := Lib.hid hb78
      replace hB9 := Lib.hid hB9
      replace B5s := Lib.hid B5s
      replace hs38 := Lib.hid hs38
      clear hbd7 hO8 hs3 B5r B8r dB cBr y8 S8
      go_upto_region 11 with (go_at_call 24; (with_reducible refine dB2.out.mono ?_); rintro e w9 ⟨⟨s4, rfl, hs4⟩, hbd9⟩; obtain ⟨C4, hC4⟩ : ∃ C4, s4.cells.toArray = C4 := ⟨_, rfl⟩; obtain ⟨w10, S10, hB10, hO10⟩ := stStore_is s4 (B5s.out.below hbd9) rfl; rw [hC4] at S10 ⊢)
      have hb910 : Below w.heap.size w w10 := (bl_trans hb78.out hbd9).trans (hO10.below (bl_trans hb78.out hbd9).size (fun k hk => by rw [hk]; omega))
      have B8t := (hB9.out.below hbd9).only hO10 (by show ¬ b8 = b11; omega)
      have L8 := stLoad_is s3 B8t
      have L11 := stLoad_is s4 hB10
      have e3 := (hs38.out.below hbd9).keep (KeepI.only hO10 (Nat.le_trans hs38.out.top hbd9.size) (fun k h1 h2 h3 => by have h3' : k = b11 := h3; omega))
      have e4 := (hs4.below hbd9).keep (KeepI.only hO10 (Nat.le_trans hs4.top hbd9.size) (fun k h1 h2 h3 => by have h3' : k = b11 := h3; omega))
      have hsm := Lib.hid (same_sm e3 e4 sB.out)
      rw [hC3] at L8
      rw [hC4] at L11
      rw [hC3, hC4] at hsm
      have hl8t := B8t.lt
      have hl11t := hB10.lt
      replace hb910 := Lib.hid hb910
      clear e3 e4 B8t hB10 hO10 hs4 hbd9 S10 hs38 hB9 B5s dB2
      go_wp2_with (go_at_call 23; (with_reducible refine hsm.out.mono ?_); rintro e w11 ⟨rfl, hbd11⟩)
      go_ret
      exact ⟨rfl, bl_trans hb910.out hbd11⟩
end Go.Proofs.Ytfidmpkblmebeaa
