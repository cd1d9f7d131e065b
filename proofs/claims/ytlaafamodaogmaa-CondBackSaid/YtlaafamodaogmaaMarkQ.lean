/-
  The contracts of a byte's mark and of a text's quote, of chapter 04 (the reference's).
  Conditions: as each theorem states them.
-/
import Derived.Test.YtlaafamodaogmaaMapE
import Derived.Test.YtlaafamodaogmaaEsc
import Derived.Test.YtlaafamodaogmaaNum
import Derived.Deep.LoopGhost
import Derived.Laws.IdiomStrings
namespace Go.Proofs.Ytlaafamodaogmaa.SH
open Go.Proofs.Ytlaafamodaogmaa
open Go.RowKit
set_option linter.unusedVariables false
set_option linter.unusedSimpArgs false
theorem ba_at {xs : List UInt8} {k : Nat} (h : k < xs.length) (h' : k < (⟨xs.toArray⟩ : ByteArray).size) : (⟨xs.toArray⟩ : ByteArray)[k] = xs[k] := by
  rfl
theorem ba_size (xs : List UInt8) : (⟨xs.toArray⟩ : ByteArray).size = xs.length := by show xs.toArray.size = _; simp
def oct3 (c : Nat) : List UInt8 := [UInt8.ofNat (48 + c / 64), UInt8.ofNat (48 + c / 8 % 8), UInt8.ofNat (48 + c % 8)]
/-- a byte's mark -/
def markS (c : UInt8) : List UInt8 :=
  if c.toNat = 92 then [92, 92] else if 7 ≤ c.toNat ∧ c.toNat < 14 then [92, lettersW.getD (c.toNat - 7) 0] else if 32 ≤ c.toNat ∧ c.toNat < 127 then [c] else 92 :: oct3 c.toNat
theorem markS_len (c : UInt8) : (markS c).length ≤ 4 := by unfold markS oct3; (repeat' split) <;> simp
theorem ofNat_toNat {n : Nat} (h : n < 256) : (UInt8.ofNat n).toNat = n := by simp; omega
/-- three digits' row, as a string -/
theorem conv3 (w : World) (c : Nat) (hc : c < 256) :
    (convert 22 9 (.slice (some ⟨w.heap.size, 0, none⟩) 3 3)).run Try.prog (w.alloc (.cells #[.int .u8 (48 + (c : Int) / 64), .int .u8 (48 + (c : Int) / 8 % 8), .int .u8 (48 + (c : Int) % 8)] 5)) = .ok (strV (oct3 c)) (w.alloc (.cells #[.int .u8 (48 + (c : Int) / 64), .int .u8 (48 + (c : Int) / 8 % 8), .int .u8 (48 + (c : Int) % 8)] 5)) :=
  run_convert_bytes_back (P := Try.prog) _ 22 9 5 ⟨w.heap.size, 0, none⟩ 3 (oct3 c) Try.underlying22 Try.underlying5 Try.underlying9 (fun j hj => by
    have hb := Blk.new w 5 [.int .u8 (48 + (c : Int) / 64), .int .u8 (48 + (c : Int) / 8 % 8), .int .u8 (48 + (c : Int) % 8)]
    have e0 : ((UInt8.ofNat (48 + c / 64)).toNat : Int) = 48 + (c : Int) / 64 := by rw [ofNat_toNat (by omega)]; omega
    have e1 : ((UInt8.ofNat (48 + c / 8 % 8)).toNat : Int) = 48 + (c : Int) / 8 % 8 := by rw [ofNat_toNat (by omega)]; omega
    have e2 : ((UInt8.ofNat (48 + c % 8)).toNat : Int) = 48 + (c : Int) % 8 := by rw [ofNat_toNat (by omega)]; omega
    match j, hj with
    | 0, _ => rw [show (oct3 c)[0] = UInt8.ofNat (48 + c / 64) from rfl, e0]; exact hb.cell 0
    | 1, _ => rw [show (oct3 c)[1] = UInt8.ofNat (48 + c / 8 % 8) from rfl, e1]; exact hb.cell 1
    | 2, _ => rw [show (oct3 c)[2] = UInt8.ofNat (48 + c % 8) from rfl, e2]; exact hb.cell 2)
theorem conv1b (w : World) (c : UInt8) :
    (convert 22 9 (.slice (some ⟨w.heap.size, 0, none⟩) 1 1)).run Try.prog (w.alloc (.cells #[.int .u8 (c.toNat : Int)] 5)) = .ok (strV [c]) (w.alloc (.cells #[.int .u8 (c.toNat : Int)] 5)) :=
  run_convert_bytes_back (P := Try.prog) _ 22 9 5 ⟨w.heap.size, 0, none⟩ 1 [c] Try.underlying22 Try.underlying5 Try.underlying9 (fun j hj => by
    have hb := Blk.new w 5 [.int .u8 (c.toNat : Int)]
    match j, hj with
    | 0, _ => exact hb.cell 0)
theorem enc_one (c : UInt8) (h : c.toNat < 128) : Value.string (Utf8.encode (c.toNat : Int)) = strV [c] := by
  have : ∀ n : Nat, n < 128 → (Utf8.encode (n : Int)) = ⟨#[UInt8.ofNat n]⟩ := by decide
  rw [this _ h]
  simp [strV]
def ByteIs (s : List UInt8) (w : World) (e : Ending) (w' : World) : Prop := e = .returned (strV s) ∧ Below w.heap.size w w'
theorem ByteIs.mk {s t : List UInt8} {w w' : World} (h : s = t) (hb : Below w.heap.size w w') : ByteIs t w (.returned (strV s)) w' := ⟨by rw [h], hb⟩
theorem ba_add1 (a b : List UInt8) : (⟨a.toArray⟩ : ByteArray) ++ ⟨b.toArray⟩ = ⟨(a ++ b).toArray⟩ := by apply ByteArray.ext; simp [ByteArray.data_append]
set_option maxHeartbeats 2000000 in
set_option maxRecDepth 100000 in
theorem rmark_any (c : UInt8) (w : World) : Calls Try.prog 32 #[.int .u8 (c.toNat : Int)] w (ByteIs (markS c) w) := by
  have hc := UInt8.toNat_lt c
  by_cases h92 : c.toNat = 92
  · have hm : markS c = [92, 92] := by unfold markS; rw [if_pos h92]
    rw [hm]
    have q0 : ((c.toNat : Int) == 92) = true := by simp; omega
    clear hm h92
    generalize (c.toNat : Int) = z at *
    go_enter Try.func32, Try.ntmps32
    go_wp2_with fail
    go_ret
    exact ByteIs.mk rfl (Below.refl _ _)
  · have q0 : ((c.toNat : Int) == 92) = false := by simp; omega
    by_cases h7 : 7 ≤ c.toNat ∧ c.toNat < 14
    · have hm : markS c = [92, lettersW.getD (c.toNat - 7) 0] := by unfold markS; rw [if_neg h92, if_pos h7]
      rw [hm]
      have h8 : c.toNat = 7 ∨ c.toNat = 8 ∨ c.toNat = 9 ∨ c.toNat = 10 ∨ c.toNat = 11 ∨ c.toNat = 12 ∨ c.toNat = 13 := by omega
      clear hm h92 h7 q0 hc
      generalize c.toNat = z at *
      rcases h8 with rfl | rfl | rfl | rfl | rfl | rfl | rfl
      all_goals
        go_enter Try.func32, Try.ntmps32
        go_wp2_with fail
        go_ret
        exact ByteIs.mk (by decide) (Below.refl _ _)
    · by_cases h32 : 32 ≤ c.toNat ∧ c.toNat < 127
      · have hm : markS c = [c] := by unfold markS; rw [if_neg h92, if_neg h7, if_pos h32]
        rw [hm]
        have q1 : decide ((7 : Int) ≤ c.toNat) = true := by rw [decide_eq_true_eq]; omega
        have q2 : decide ((c.toNat : Int) < 14) = false := by rw [decide_eq_false_iff_not]; omega
        have q2' : decide ((c.toNat : Int) ≤ 13) = false := by rw [decide_eq_false_iff_not]; omega
        have q3 : decide ((32 : Int) ≤ c.toNat) = true := by rw [decide_eq_true_eq]; omega
        have q4 : decide ((c.toNat : Int) ≤ 126) = true := by rw [decide_eq_true_eq]; omega
        have he := Lib.hid (enc_one c (by omega))
        have h1 := conv1b w c
        clear hm h92 h7 h32
        go_enter Try.func32, Try.ntmps32
        go_wp2_with fail
        go_ret
        exact ⟨rfl, bl_alloc (Below.refl _ _) _⟩
      · have hm : markS c = 92 :: oct3 c.toNat := by unfold markS; rw [if_neg h92, if_neg h7, if_neg h32]
        rw [hm]
        have h3 := conv3 w c.toNat hc
        have ho := Lib.hid (show (⟨#[92]⟩ : ByteArray) ++ ⟨(oct3 c.toNat).toArray⟩ = ⟨(92 :: oct3 c.toNat).toArray⟩ from ba_add1 [92] _)
        have hol : (oct3 c.toNat).length = 3 := rfl
        generalize oct3 c.toNat = O at *
        have h4 : c.toNat < 7 ∨ (14 ≤ c.toNat ∧ c.toNat < 32) ∨ (127 ≤ c.toNat ∧ c.toNat < 256) := by omega
        clear hm h92 h7 h32
        rcases h4 with h4 | h4 | h4
        · have q1 : decide ((7 : Int) ≤ c.toNat) = false := by rw [decide_eq_false_iff_not]; omega
          have q3 : decide ((32 : Int) ≤ c.toNat) = false := by rw [decide_eq_false_iff_not]; omega
          go_enter Try.func32, Try.ntmps32
          go_wp2_with fail
          go_ret
          exact ⟨congrArg (fun s => Ending.returned (Value.string s)) ho.out, bl_alloc (Below.refl _ _) _⟩
        · have q1 : decide ((7 : Int) ≤ c.toNat) = true := by rw [decide_eq_true_eq]; omega
          have q2 : decide ((c.toNat : Int) < 14) = false := by rw [decide_eq_false_iff_not]; omega
          have q2' : decide ((c.toNat : Int) ≤ 13) = false := by rw [decide_eq_false_iff_not]; omega
          have q3 : decide ((32 : Int) ≤ c.toNat) = false := by rw [decide_eq_false_iff_not]; omega
          go_enter Try.func32, Try.ntmps32
          go_wp2_with fail
          go_ret
          exact ⟨congrArg (fun s => Ending.returned (Value.string s)) ho.out, bl_alloc (Below.refl _ _) _⟩
        · have q1 : decide ((7 : Int) ≤ c.toNat) = true := by rw [decide_eq_true_eq]; omega
          have q2 : decide ((c.toNat : Int) < 14) = false := by rw [decide_eq_false_iff_not]; omega
          have q2' : decide ((c.toNat : Int) ≤ 13) = false := by rw [decide_eq_false_iff_not]; omega
          have q3 : decide ((32 : Int) ≤ c.toNat) = true := by rw [decide_eq_true_eq]; omega
          have q4 : decide ((c.toNat : Int) ≤ 126) = false := by rw [decide_eq_false_iff_not]; omega
          go_enter Try.func32, Try.ntmps32
          go_wp2_with fail
          go_ret
          exact ⟨congrArg (fun s => Ending.returned (Value.string s)) ho.out, bl_alloc (Below.refl _ _) _⟩
def quoteB (c : UInt8) : List UInt8 := if c.toNat = 34 then [92, 34] else markS c
/-- a text's quote -/
def quoteS (l : List UInt8) : List UInt8 := 34 :: (l.flatMap quoteB ++ [34])
theorem quoteB_len (c : UInt8) : (quoteB c).length ≤ 4 := by unfold quoteB; split; simp; exact markS_len c
theorem flat_len (l : List UInt8) : (l.flatMap quoteB).length ≤ 4 * l.length := by
  induction l with
  | nil => simp
  | cons c l ih => rw [List.flatMap_cons, List.length_append, List.length_cons]; have := quoteB_len c; omega
theorem flat_snoc {l : List UInt8} {k : Nat} (hk : k < l.length) : (l.take (k + 1)).flatMap quoteB = (l.take k).flatMap quoteB ++ quoteB l[k] := by
  rw [List.take_succ_eq_append_getElem hk, List.flatMap_append]; simp
theorem strCells_list (l : List UInt8) : Lib.strCells ⟨l.toArray⟩ = Lib.byteCells l := by simp [Lib.strCells, Lib.byteCells]
theorem byteCells_app (a b : List UInt8) : Lib.byteCells (a ++ b) = Lib.byteCells a ++ Lib.byteCells b := by simp [Lib.byteCells]
theorem byteCells_len (a : List UInt8) : (Lib.byteCells a).length = a.length := by simp [Lib.byteCells]
set_option maxHeartbeats 2000000 in
set_option maxRecDepth 100000 in
theorem rquote_any (ba : Option Addr) (bc : Nat) (xs : List UInt8) (w : World) (hl : xs.length ≤ 1000000) (hs : BytesAt w ba xs) :
    Calls Try.prog 15 #[.slice ba xs.length bc] w (ByteIs (quoteS xs) w) := by
  have hmk := Lib.hid (fun (c : UInt8) (W : World) => rmark_any c W)
  replace hs := Lib.hid hs
  go_enter Try.func15, Try.ntmps15
  go_wp2_with fail
  go_loopg [3, 4] xs.length (fun gh v i wr => ∃ k : Nat, gh = xs.length - k ∧ i = .int .i64 (k : Int) ∧ k ≤ xs.length ∧ v = strV (34 :: (xs.take k).flatMap quoteB) ∧ Below w.heap.size w wr)
  case atStart => exact ⟨0, rfl, rfl, by omega, rfl, Below.refl _ _⟩
  case round =>
    obtain ⟨k, rfl, rfl, hk, rfl, hb⟩ := hrel
    have hfl := flat_len (xs.take k)
    rw [List.length_take] at hfl
    by_cases hlt : k < xs.length
    · obtain ⟨p, o, rfl, hp, hr⟩ := hs.out (by omega)
      have hrow := Lib.hid (fun (W : World) (hW : Below w.heap.size w W) => (hW.cell (p := ⟨p, o + k, none⟩) hp).trans (hr k hlt))
      have c1 := hrow.out wr hb
      have hsn := flat_snoc hlt
      have lq := quoteB_len xs[k]
      clear hr
      generalize hF : (xs.take k).flatMap quoteB = F at *
      replace hF := Lib.hid hF
      by_cases hc : xs[k].toNat = 34
      · have q1 : ((xs[k].toNat : Int) == 34) = true := by simp; omega
        have e1 : (xs.take (k + 1)).flatMap quoteB = F ++ [92, 34] := by rw [hsn]; unfold quoteB; rw [if_pos hc]
        replace e1 := Lib.hid e1
        clear hsn hc
        generalize xs[k] = c at *
        go_wp2_with fail
        all_goals go_roundg (xs.length - (k + 1))
        case measure => omega
        case rel => exact ⟨k + 1, rfl, by go_num, by omega, by rw [e1.out]; exact congrArg Value.string (ba_add1 (34 :: F) [92, 34]), hb⟩
      · have q1 : ((xs[k].toNat : Int) == 34) = false := by simp; omega
        have e1 : (xs.take (k + 1)).flatMap quoteB = F ++ markS xs[k] := by rw [hsn]; unfold quoteB; rw [if_neg hc]
        have hm := Lib.hid (hmk.out xs[k])
        have lm := markS_len xs[k]
        replace e1 := Lib.hid e1
        clear hsn hc
        generalize hM : markS xs[k] = M at *
        replace hM := Lib.hid hM
        generalize xs[k] = c at *
        go_wp2_with (go_at_call 32; refine (hm.out _).mono ?_; rintro e w7 ⟨rfl, hb7⟩)
        all_goals go_roundg (xs.length - (k + 1))
        case measure => omega
        case rel => exact ⟨k + 1, rfl, by go_num, by omega, by rw [e1.out]; exact congrArg Value.string (ba_add1 (34 :: F) M), bl_trans hb hb7⟩
    · obtain rfl : k = xs.length := by omega
      rw [List.take_length] at *
      have e1 := Lib.hid (show (34 :: xs.flatMap quoteB) ++ [34] = quoteS xs from rfl)
      generalize xs.flatMap quoteB = F at *
      go_wp2_with fail
      all_goals go_ret
      all_goals exact ⟨by rw [← e1.out]; exact congrArg (fun s => Ending.returned (Value.string s)) (ba_add1 (34 :: F) [34]), hb⟩
end Go.Proofs.Ytlaafamodaogmaa.SH
