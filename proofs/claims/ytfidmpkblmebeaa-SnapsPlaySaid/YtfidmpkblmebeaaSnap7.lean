/-
  Offers in a row; awake of chapter 25. (Printed by gen_snap7.py.)
  Conditions: as each theorem states them.
-/
import Derived.Test.YtfidmpkblmebeaaSnap6
import Derived.Test.YtfidmpkblmebeaaSnapN
namespace Go.Proofs.Ytfidmpkblmebeaa
open Go.RowKit
set_option linter.unusedVariables false
set_option linter.unusedSimpArgs false
attribute [local go_sem ↓] load_st store_st
theorem offerNo_mults (k i : Nat) (f : Nat → StC) : offerNo (k : Int) (SM.mults k i f) (i : Int) = !(i % k == 0) := by
  unfold offerNo
  rw [SM.mults_has]
  have h1 : decide ((i : Int) < 0) = false := by simp
  have h2 : ((i : Int) % (k : Int) != 0) = !(i % k == 0) := by
    rw [← Int.natCast_emod]
    rw [Bool.eq_iff_iff]
    simp
    omega
  rw [h1, h2]
  simp
theorem offer_mult {w : World} {p mb n k i : Nat} {f : Nat → StC} {ph : Int} (hS : SnAt w p mb n (k : Int) (SM.mults k i f)) (hn : n ≤ i) (hi : i < 10000) (hk : 1 ≤ k ∧ k ≤ 1000) (hf : f i = bare ph) :
    Calls Try.prog 9 #[.pointer (some ⟨p, 0, none⟩), .int .i64 (i : Int), .agg #[.slice none 0 0, .slice none 0 0, .bool false, .int .i64 0, .bool false, .int .i64 0, .int .i64 0, .int .i64 0, .int .i64 0, .int .i64 0, .slice none 0 0, .slice none 0 0, .bool false, .slice none 0 0, .bool false, .int .i64 ph, .int .i64 0, .int .i64 0, .int .i64 0, .int .i64 0, .bool false, .bool false, .bool false, .slice none 0 0, .slice none 0 0, .slice none 0 0, .slice none 0 0]] w fun e w' => e = .returned (.bool (i % k == 0)) ∧ ∃ n', n' ≤ i + 1 ∧ SnAt w' p mb n' (k : Int) (SM.mults k (i + 1) f) ∧ Only (fun j => j = mb) w w' := by
  refine Calls.mono (offer_any hS (by omega) (by omega) (i : Int) (by omega) (bare ph) (copies_bare w ph)) ?_
  rintro e w' h
  unfold OfferIs at h
  rw [offerNo_mults] at h
  rw [SM.mults_step]
  rcases h with ⟨h1, rfl, hb⟩ | ⟨h1, rfl, s', n5, w5, rfl, _, hb, hO, hS'⟩
  · have h2 : (i % k == 0) = false := by simpa using h1
    refine ⟨by rw [h2], n, by omega, ?_, Only.of_below hb⟩
    rw [if_neg (by simpa using h2)]
    exact hS.below hb
  · have h2 : (i % k == 0) = true := by simpa using h1
    refine ⟨by rw [h2], n + 1, by omega, ?_, (Only.of_below hb).trans hO⟩
    rw [if_pos (by simpa using h2), hf]
    exact hS'
theorem st_new (w : World) (s : StC) : ∃ w', (stStore ⟨w.heap.size, 0, none⟩ (.agg s.cells.toArray)).run Try.prog (w.alloc (.cells #[.slice none 0 0, .slice none 0 0, .bool false, .int .i64 0, .bool false, .int .i64 0, .int .i64 0, .int .i64 0, .int .i64 0, .int .i64 0, .slice none 0 0, .slice none 0 0, .bool false, .slice none 0 0, .bool false, .int .i64 0, .int .i64 0, .int .i64 0, .int .i64 0, .int .i64 0, .bool false, .bool false, .bool false, .slice none 0 0, .slice none 0 0, .slice none 0 0, .slice none 0 0] 43)) = .ok () w' ∧ Blk w' w.heap.size 43 s.cells ∧ Below w.heap.size w w' := by
  obtain ⟨w', h1, h2, h3⟩ := stStore_is s (w := w.alloc (.cells zeroC.cells.toArray 43)) (g := w.heap.size) (Blk.new w _ _) rfl
  exact ⟨w', h1, h2, Below.trans (bl_alloc (Below.refl _ _) _) (Only.below h3 (by simp) (fun i hi => by rw [hi]; exact Nat.le_refl _))⟩
def LookB (o : Option (Int × StC)) (w : World) (e : Ending) (w' : World) : Prop := ∃ (n : Int) (s' : StC) (b : Bool), e = .returned (.tuple #[.int .i64 n, .agg s'.cells.toArray, .bool b]) ∧ Below w.heap.size w w' ∧ (match o with | none => n = 0 ∧ s' = zeroC ∧ b = false | some x => n = x.1 ∧ s' = x.2 ∧ b = true)
theorem look_b {o : Option (Int × StC)} {w w' : World} {e : Ending} (h : LookIs o (fun s s' _ _ => s' = s) w e w') : LookB o w e w' := by
  unfold LookIs at h
  split at h
  · exact ⟨0, zeroC, false, h.1, h.2, rfl, rfl, rfl⟩
  · rename_i x
    obtain ⟨s', n5, w5, rfl, rfl, _, hb, ho⟩ := h
    exact ⟨x.1, x.2, true, rfl, hb.trans (ho.below hb.size (fun k hk => hk.1)), rfl, rfl, rfl⟩
theorem copies_all {w : World} {L : List (Int × StC)} (h : ∀ x ∈ L, ∃ p, x.2 = bare p) : ∀ x ∈ L, Copies w x.2 (fun s' _ _ => s' = x.2) := fun x hx => by
  obtain ⟨p, hp⟩ := h x hx
  rw [hp]
  exact copies_bare w p
theorem mults_bare {k n : Nat} {f : Nat → StC} (hf : ∀ i, ∃ p, f i = bare p) : ∀ x ∈ SM.mults k n f, ∃ p, x.2 = bare p := fun x hx => by
  obtain ⟨i, _, _, rfl⟩ := SM.mults_mem.1 hx
  exact hf i
theorem ahead_b {w : World} {p mb n : Nat} {period : Int} {L : List (Int × StC)} (hS : SnAt w p mb n period L) (hl : L.length ≤ 100000) (k : Int) (hc : ∀ x ∈ L, ∃ p, x.2 = bare p) : Calls Try.prog 15 #[.pointer (some ⟨p, 0, none⟩), .int .i64 k] w (LookB (SM.ahead L k) w) :=
  (ahead_any hS hl k (Q := fun s s' _ _ => s' = s) (copies_all hc)).mono fun e w' h => look_b h
theorem behind_b {w : World} {p mb n : Nat} {period : Int} {L : List (Int × StC)} (hS : SnAt w p mb n period L) (hl : L.length ≤ 100000) (k : Int) (hc : ∀ x ∈ L, ∃ p, x.2 = bare p) : Calls Try.prog 16 #[.pointer (some ⟨p, 0, none⟩), .int .i64 k] w (LookB (SM.behind L k) w) :=
  (behind_any hS hl k (Q := fun s s' _ _ => s' = s) (copies_all hc)).mono fun e w' h => look_b h
set_option maxHeartbeats 4000000 in
set_option maxRecDepth 100000 in
theorem awake25 (w : World) : Calls Try.prog 6 #[] w fun e w' => e = .returned (.bool true) ∧ Below w.heap.size w w' := by
  have hnew := Lib.hid (new_any w 3 (by omega))
  have hret := fun w' (hb : Below w.heap.size w w') => (⟨rfl, hb⟩ : (Ending.returned (.bool true)) = .returned (.bool true) ∧ Below w.heap.size w w')
  obtain ⟨f, hf⟩ : ∃ f : Nat → StC, f = fun _ => bare 0 := ⟨_, rfl⟩
  have hfb : ∀ i, f i = bare 0 := fun i => by rw [hf]
  go_enter Try.func6, Try.ntmps6
  go_wp2_with (go_at_call 5; (with_reducible refine hnew.out.mono ?_); rintro e W1 ⟨p, mb, rfl, hS1, hm1, hp1, hp2, hb1⟩; replace hS1 := Lib.hid hS1; replace hb1 := Lib.hid hb1)
  go_loopg [3] 8 (fun gh v wr => ∃ i n : Nat, gh = 8 - i ∧ v = .int .i64 (i : Int) ∧ i ≤ 8 ∧ n ≤ i ∧ Hid (SnAt wr p mb n ((3 : Nat) : Int) (SM.mults 3 i f)) ∧ Hid (Only (fun j => j = mb) W1 wr))
  case atStart => exact ⟨0, 0, rfl, rfl, by omega, by omega, hS1, Lib.hid (Only.refl _ _)⟩
  case round =>
    obtain ⟨i, n, rfl, rfl, hi, hn, hS, hO⟩ := hrel
    by_cases hlt : i < 8
    · have q0 : decide ((i : Int) < 8) = true := by simp; omega
      have hof := Lib.hid (offer_mult hS.out hn (by omega) (by omega) (hfb i))
      obtain ⟨B, hB⟩ : ∃ B, (i % 3 == 0) = B := ⟨_, rfl⟩
      have hBi : ((i : Int) % 3 == 0) = B := by rw [← hB, Bool.eq_iff_iff]; simp; omega
      rw [hB] at hof
      replace hB := Lib.hid hB
      cases B
      all_goals go_wp2_with (go_at_call 9; (with_reducible refine hof.out.mono ?_); rintro e w3 ⟨rfl, n', hn', hS3, hO3⟩; replace hS3 := Lib.hid hS3; replace hO3 := Lib.hid hO3)
      all_goals go_roundg (8 - (i + 1))
      case measure => omega
      case rel => exact ⟨i + 1, n', rfl, by go_num, by omega, hn', hS3, Lib.hid (hO.out.trans hO3.out)⟩
      case measure => omega
      case rel => exact ⟨i + 1, n', rfl, by go_num, by omega, hn', hS3, Lib.hid (hO.out.trans hO3.out)⟩
    · obtain rfl : i = 8 := by omega
      have hbr : Below w.heap.size w wr := hb1.out.trans (hO.out.below hb1.out.size (fun j hj => by rw [hj]; exact hm1))
      have hLb := mults_bare (k := 3) (n := 8) (f := f) (fun i => ⟨0, hfb i⟩)
      have hLl : (SM.mults 3 8 f).length ≤ 100000 := Nat.le_trans (SM.mults_len 3 8 f) (by omega)
      have hA := ahead_b hS.out hLl 5 hLb
      have eA : SM.ahead (SM.mults 3 8 f) 5 = some (3, bare 0) := by rw [hf]; rfl
      have eB : SM.behind (SM.mults 3 8 f) 5 = some (6, bare 0) := by rw [hf]; rfl
      have eL : (SM.mults 3 8 f).length = 3 := by rw [hf]; rfl
      rw [eA] at hA
      have hBh := Lib.hid (fun w' (hb : Below wr.heap.size wr w') => (by
        have := behind_b (hS.out.below hb) hLl 5 hLb
        rw [eB] at this; exact this : Calls Try.prog 16 #[.pointer (some ⟨p, 0, none⟩), .int .i64 5] w' (LookB (some (6, bare 0)) w')))
      have hNm := Lib.hid (fun w' (hb : Below wr.heap.size wr w') => (by
        have hS' := hS.out.below hb
        refine (numbers_any hS'.blk hS'.map hS'.rise (by omega)).mono ?_
        rintro e w'' ⟨v, rfl, hN, hb'⟩
        have hN' : NumAt w'' w'.heap.size v ((SM.mults 3 8 f).map Prod.fst) := by unfold NumAt; rw [List.length_map]; exact hN
        obtain ⟨a, c, rfl, _⟩ := hN'.slice
        rw [List.length_map, eL]
        exact ⟨a, c, rfl, hb'⟩ : Calls Try.prog 13 #[.pointer (some ⟨p, 0, none⟩)] w' fun e w'' => ∃ a c, e = .returned (.slice a 3 c) ∧ Below w'.heap.size w' w''))
      have hst := Lib.hid (fun w' => st_new w' (bare 0))
      obtain ⟨C, hC⟩ : ∃ C, (bare 0).cells.toArray = C := ⟨_, rfl⟩
      rw [hC] at hst
      replace hA := Lib.hid hA
      replace hbr := Lib.hid hbr
      clear hS hO hLb hLl eA eB eL hS1 hb1 hnew hfb hf
      go_wp2_with (first
        | (go_at_call 15; (with_reducible refine hA.out.mono ?_); rintro e w3 ⟨rn, s', rb, rfl, hb3, rfl, rfl, rfl⟩; rw [hC]; obtain ⟨w4, S4, _, hb4⟩ := hst.out w3; have hb34 := bl_trans hb3 hb4; clear hA)
        | (go_at_call 16; (with_reducible refine (hBh.out _ hb34).mono ?_); rintro e w5 ⟨rn, s', rb, rfl, hb5, rfl, rfl, rfl⟩; rw [hC]; obtain ⟨w6, S6, _, hb6⟩ := hst.out w5; have hb36 := bl_trans hb34 (bl_trans hb5 hb6))
        | (go_at_call 13; (with_reducible refine (hNm.out _ hb36).mono ?_); rintro e w7 ⟨a, c, rfl, hb7⟩))
      go_ret
      exact ⟨rfl, bl_trans hbr.out (bl_trans hb36 hb7)⟩
end Go.Proofs.Ytfidmpkblmebeaa
