/-
  The contracts of a byte's mark, of chapter 04.
  Conditions: as each theorem states them.
-/
import Derived.Test.YtepdfkgadigafaaGreatDoorBuilder
import Derived.Test.YtepdfkgadigafaaGreatDoorEscA
import Derived.Test.YtepdfkgadigafaaGreatDoorNum
import Derived.Deep.LoopGhost
import Derived.Laws.IdiomStrings
import Derived.Test.YtepdfkgadigafaaGreatDoorUnqD
namespace Go.Proofs.YtepdfkgadigafaaGreatDoor.SH
open Go.Proofs.YtepdfkgadigafaaGreatDoor
open Go.RowKit
set_option linter.unusedVariables false
set_option linter.unusedSimpArgs false
theorem ba_at {xs : List UInt8} {k : Nat} (h : k < xs.length) (h' : k < (⟨xs.toArray⟩ : ByteArray).size) : (⟨xs.toArray⟩ : ByteArray)[k] = xs[k] := by
  rfl
theorem ba_size (xs : List UInt8) : (⟨xs.toArray⟩ : ByteArray).size = xs.length := by show xs.toArray.size = _; simp
def oct3 (c : Nat) : List UInt8 := [UInt8.ofNat (48 + c / 64), UInt8.ofNat (48 + c / 8 % 8), UInt8.ofNat (48 + c % 8)]
/-- a byte's mark -/
def markS (c : UInt8) : List UInt8 :=
  if c.toNat = 92 then [92, 92] else if 7 ≤ c.toNat ∧ c.toNat < 14 then [92, lettersW.getD (c.toNat - 7) 0] else if 32 ≤ c.toNat ∧ c.toNat < 127 then [c] else 92 :: oct3 c.toNat
theorem markS_len (c : UInt8) : (markS c).length ≤ 4 := by unfold markS oct3; (repeat' split) <;> simp
theorem ofNat_toNat {n : Nat} (h : n < 256) : (UInt8.ofNat n).toNat = n := by simp; omega
/-- three digits' row, as a string -/
theorem conv3 (w : World) (c : Nat) (hc : c < 256) :
    (convert 22 9 (.slice (some ⟨w.heap.size, 0, none⟩) 3 3)).run Tryz.prog (w.alloc (.cells #[.int .u8 (48 + (c : Int) / 64), .int .u8 (48 + (c : Int) / 8 % 8), .int .u8 (48 + (c : Int) % 8)] 5)) = .ok (strV (oct3 c)) (w.alloc (.cells #[.int .u8 (48 + (c : Int) / 64), .int .u8 (48 + (c : Int) / 8 % 8), .int .u8 (48 + (c : Int) % 8)] 5)) :=
  run_convert_bytes_back (P := Tryz.prog) _ 22 9 5 ⟨w.heap.size, 0, none⟩ 3 (oct3 c) Tryz.underlying22 Tryz.underlying5 Tryz.underlying9 (fun j hj => by
    have hb := Blk.new w 5 [.int .u8 (48 + (c : Int) / 64), .int .u8 (48 + (c : Int) / 8 % 8), .int .u8 (48 + (c : Int) % 8)]
    have e0 : ((UInt8.ofNat (48 + c / 64)).toNat : Int) = 48 + (c : Int) / 64 := by rw [ofNat_toNat (by omega)]; omega
    have e1 : ((UInt8.ofNat (48 + c / 8 % 8)).toNat : Int) = 48 + (c : Int) / 8 % 8 := by rw [ofNat_toNat (by omega)]; omega
    have e2 : ((UInt8.ofNat (48 + c % 8)).toNat : Int) = 48 + (c : Int) % 8 := by rw [ofNat_toNat (by omega)]; omega
    match j, hj with
    | 0, _ => rw [show (oct3 c)[0] = UInt8.ofNat (48 + c / 64) from rfl, e0]; exact hb.cell 0
    | 1, _ => rw [show (oct3 c)[1] = UInt8.ofNat (48 + c / 8 % 8) from rfl, e1]; exact hb.cell 1
    | 2, _ => rw [show (oct3 c)[2] = UInt8.ofNat (48 + c % 8) from rfl, e2]; exact hb.cell 2)
theorem conv1b (w : World) (c : UInt8) :
    (convert 22 9 (.slice (some ⟨w.heap.size, 0, none⟩) 1 1)).run Tryz.prog (w.alloc (.cells #[.int .u8 (c.toNat : Int)] 5)) = .ok (strV [c]) (w.alloc (.cells #[.int .u8 (c.toNat : Int)] 5)) :=
  run_convert_bytes_back (P := Tryz.prog) _ 22 9 5 ⟨w.heap.size, 0, none⟩ 1 [c] Tryz.underlying22 Tryz.underlying5 Tryz.underlying9 (fun j hj => by
    have hb := Blk.new w 5 [.int .u8 (c.toNat : Int)]
    match j, hj with
    | 0, _ => exact hb.cell 0)
theorem enc_one (c : UInt8) (h : c.toNat < 128) : Value.string (Utf8.encode (c.toNat : Int)) = strV [c] := by
  have : ∀ n : Nat, n < 128 → (Utf8.encode (n : Int)) = ⟨#[UInt8.ofNat n]⟩ := by decide
  rw [this _ h]
  simp [strV]
def ByteIs (s : List UInt8) (w : World) (e : Ending) (w' : World) : Prop := e = .returned (strV s) ∧ Below w.heap.size w w'
theorem ByteIs.mk {s t : List UInt8} {w w' : World} (h : s = t) (hb : Below w.heap.size w w') : ByteIs t w (.returned (strV s)) w' := ⟨by rw [h], hb⟩
theorem ba_add1 (a b : List UInt8) : (⟨a.toArray⟩ : ByteArray) ++ ⟨b.toArray⟩ = ⟨(a ++ b).toArray⟩ := by apply ByteArray.ext; simp [ByteArray.data_append]
set_option maxHeartbeats 2000000 in
set_option maxRecDepth 100000 in
theorem mark_any (c : UInt8) (w : World) : Calls Tryz.prog 57 #[.int .u8 (c.toNat : Int)] w (ByteIs (markS c) w) := by
  have hc := UInt8.toNat_lt c
  by_cases h92 : c.toNat = 92
  · have hm : markS c = [92, 92] := by unfold markS; rw [if_pos h92]
    rw [hm]
    have q0 : ((c.toNat : Int) == 92) = true := by simp; omega
    clear hm h92
    generalize (c.toNat : Int) = z at *
    go_enter Tryz.func57, Tryz.ntmps57
    go_wp2_with fail
    go_ret
    exact ByteIs.mk rfl (Below.refl _ _)
  · have q0 : ((c.toNat : Int) == 92) = false := by simp; omega
    by_cases h7 : 7 ≤ c.toNat ∧ c.toNat < 14
    · have hm : markS c = [92, lettersW.getD (c.toNat - 7) 0] := by unfold markS; rw [if_neg h92, if_pos h7]
      rw [hm]
      have h8 : c.toNat = 7 ∨ c.toNat = 8 ∨ c.toNat = 9 ∨ c.toNat = 10 ∨ c.toNat = 11 ∨ c.toNat = 12 ∨ c.toNat = 13 := by omega
      clear hm h92 h7 q0 hc
      generalize c.toNat = z at *
      rcases h8 with rfl | rfl | rfl | rfl | rfl | rfl | rfl
      all_goals
        go_enter Tryz.func57, Tryz.ntmps57
        go_wp2_with fail
        go_ret
        exact ByteIs.mk (by decide) (Below.refl _ _)
    · by_cases h32 : 32 ≤ c.toNat ∧ c.toNat < 127
      · have hm : markS c = [c] := by unfold markS; rw [if_neg h92, if_neg h7, if_pos h32]
        rw [hm]
        have q1 : decide ((7 : Int) ≤ c.toNat) = true := by rw [decide_eq_true_eq]; omega
        have q2 : decide ((c.toNat : Int) < 14) = false := by rw [decide_eq_false_iff_not]; omega
        have q2' : decide ((c.toNat : Int) ≤ 13) = false := by rw [decide_eq_false_iff_not]; omega
        have q3 : decide ((32 : Int) ≤ c.toNat) = true := by rw [decide_eq_true_eq]; omega
        have q4 : decide ((c.toNat : Int) ≤ 126) = true := by rw [decide_eq_true_eq]; omega
        have he := Lib.hid (enc_one c (by omega))
        have h1 := conv1b w c
        clear hm h92 h7 h32
        go_enter Tryz.func57, Tryz.ntmps57
        go_wp2_with fail
        go_ret
        exact ⟨congrArg Ending.returned he.out, Below.refl _ _⟩
      · have hm : markS c = 92 :: oct3 c.toNat := by unfold markS; rw [if_neg h92, if_neg h7, if_neg h32]
        rw [hm]
        have h3 := conv3 w c.toNat hc
        have ho := Lib.hid (show (⟨#[92]⟩ : ByteArray) ++ ⟨(oct3 c.toNat).toArray⟩ = ⟨(92 :: oct3 c.toNat).toArray⟩ from ba_add1 [92] _)
        have hol : (oct3 c.toNat).length = 3 := rfl
        generalize oct3 c.toNat = O at *
        have h4 : c.toNat < 7 ∨ (14 ≤ c.toNat ∧ c.toNat < 32) ∨ (127 ≤ c.toNat ∧ c.toNat < 256) := by omega
        clear hm h92 h7 h32
        rcases h4 with h4 | h4 | h4
        · have q1 : decide ((7 : Int) ≤ c.toNat) = false := by rw [decide_eq_false_iff_not]; omega
          have q3 : decide ((32 : Int) ≤ c.toNat) = false := by rw [decide_eq_false_iff_not]; omega
          go_enter Tryz.func57, Tryz.ntmps57
          go_wp2_with fail
          go_ret
          exact ⟨congrArg (fun s => Ending.returned (Value.string s)) ho.out, bl_alloc (Below.refl _ _) _⟩
        · have q1 : decide ((7 : Int) ≤ c.toNat) = true := by rw [decide_eq_true_eq]; omega
          have q2 : decide ((c.toNat : Int) < 14) = false := by rw [decide_eq_false_iff_not]; omega
          have q2' : decide ((c.toNat : Int) ≤ 13) = false := by rw [decide_eq_false_iff_not]; omega
          have q3 : decide ((32 : Int) ≤ c.toNat) = false := by rw [decide_eq_false_iff_not]; omega
          go_enter Tryz.func57, Tryz.ntmps57
          go_wp2_with fail
          go_ret
          exact ⟨congrArg (fun s => Ending.returned (Value.string s)) ho.out, bl_alloc (Below.refl _ _) _⟩
        · have q1 : decide ((7 : Int) ≤ c.toNat) = true := by rw [decide_eq_true_eq]; omega
          have q2 : decide ((c.toNat : Int) < 14) = false := by rw [decide_eq_false_iff_not]; omega
          have q2' : decide ((c.toNat : Int) ≤ 13) = false := by rw [decide_eq_false_iff_not]; omega
          have q3 : decide ((32 : Int) ≤ c.toNat) = true := by rw [decide_eq_true_eq]; omega
          have q4 : decide ((c.toNat : Int) ≤ 126) = false := by rw [decide_eq_false_iff_not]; omega
          go_enter Tryz.func57, Tryz.ntmps57
          go_wp2_with fail
          go_ret
          exact ⟨congrArg (fun s => Ending.returned (Value.string s)) ho.out, bl_alloc (Below.refl _ _) _⟩
end Go.Proofs.YtepdfkgadigafaaGreatDoor.SH
/-
  The contracts of Quote, of chapter 04: the program's by a builder, the reference's.
  Conditions: as each theorem states them.
-/
namespace Go.Proofs.YtepdfkgadigafaaGreatDoor.SH
open Go.Proofs.YtepdfkgadigafaaGreatDoor
open Go.RowKit
set_option linter.unusedVariables false
set_option linter.unusedSimpArgs false
def quoteB (c : UInt8) : List UInt8 := if c.toNat = 34 then [92, 34] else markS c
/-- a text's quote -/
def quoteS (l : List UInt8) : List UInt8 := 34 :: (l.flatMap quoteB ++ [34])
theorem quoteB_len (c : UInt8) : (quoteB c).length ≤ 4 := by unfold quoteB; split; simp; exact markS_len c
theorem flat_len (l : List UInt8) : (l.flatMap quoteB).length ≤ 4 * l.length := by
  induction l with
  | nil => simp
  | cons c l ih => rw [List.flatMap_cons, List.length_append, List.length_cons]; have := quoteB_len c; omega
theorem flat_snoc {l : List UInt8} {k : Nat} (hk : k < l.length) : (l.take (k + 1)).flatMap quoteB = (l.take k).flatMap quoteB ++ quoteB l[k] := by
  rw [List.take_succ_eq_append_getElem hk, List.flatMap_append]; simp
theorem strCells_list (l : List UInt8) : Lib.strCells ⟨l.toArray⟩ = Lib.byteCells l := by simp [Lib.strCells, Lib.byteCells]
theorem byteCells_app (a b : List UInt8) : Lib.byteCells (a ++ b) = Lib.byteCells a ++ Lib.byteCells b := by simp [Lib.byteCells]
theorem byteCells_len (a : List UInt8) : (Lib.byteCells a).length = a.length := by simp [Lib.byteCells]
/-- a row of bytes, or none -/
def BytesAt (w : World) (ba : Option Addr) (xs : List UInt8) : Prop := 0 < xs.length → ∃ p o, ba = some ⟨p, o, none⟩ ∧ p < w.heap.size ∧ ByteRow w p o xs
theorem BytesAt.below {w w' : World} {ba : Option Addr} {xs : List UInt8} (h : BytesAt w ba xs) (hb : Below w.heap.size w w') : BytesAt w' ba xs := fun h0 => by
  obtain ⟨p, o, e, hp, hr⟩ := h h0
  exact ⟨p, o, e, Nat.lt_of_lt_of_le hp hb.size, fun i hi => (hb.cell (p := ⟨p, o + i, none⟩) hp).trans (hr i hi)⟩
theorem own_blw {w w' : World} {base e k : Nat} {v : Value} {xs : List Value} (h : w.ownsRow base e 1 v k xs) (hb : Below w.heap.size w w') : w'.ownsRow base e 1 v k xs := by
  obtain ⟨hl, h⟩ := h
  rcases h with ⟨rfl, rfl⟩ | ⟨g, cap, cur, rfl, hg, hb', hk, hc, hs, rfl⟩
  · exact ⟨hl, .inl ⟨rfl, rfl⟩⟩
  · exact ⟨hl, .inr ⟨g, cap, cur, rfl, hg, (hb.block g (Array.getElem?_eq_some_iff.1 hb').1).trans hb', hk, hc, hs, rfl⟩⟩
theorem bu_below {B b : Nat} {bs : List Value} {w w' : World} (h : BuAt B b bs w) (hb : Below w.heap.size w w') : BuAt B b bs w' := by
  obtain ⟨hB, v, hbk, hown, hne⟩ := h
  exact ⟨hB, v, (hb.block b (Array.getElem?_eq_some_iff.1 hbk).1).trans hbk, own_blw hown hb, hne⟩
set_option maxHeartbeats 4000000 in
set_option maxRecDepth 100000 in
theorem quote_any (ba : Option Addr) (bc : Nat) (xs : List UInt8) (w : World) (hl : xs.length ≤ 1000000) (hs : BytesAt w ba xs) :
    Calls Tryz.prog 27 #[.slice ba xs.length bc] w (ByteIs (quoteS xs) w) := by
  have hmk := Lib.hid (fun (c : UInt8) (W : World) => mark_any c W)
  have hwb := Lib.hid (fun (l : List UInt8) (c : UInt8) (W : World) (h : IsBu w.heap.size w.heap.size (Lib.byteCells l) W) (hlen : l.length ≤ 10000000) (hB : w.heap.size ≤ W.heap.size) => (by
    have := writeByte_any w.heap.size w.heap.size (Lib.byteCells l) c.toNat W h (by rw [byteCells_len]; omega) hB
    refine this.mono ?_
    rintro e w' ⟨rfl, h1, h2⟩
    exact ⟨rfl, by rw [byteCells_app]; exact h1, h2⟩ : Calls Tryz.prog 55 #[.pointer (some ⟨w.heap.size, 0, none⟩), .int .u8 c.toNat] W fun e w' => e = .returned .nilIface ∧ BuAt w.heap.size w.heap.size (Lib.byteCells (l ++ [c])) w' ∧ Below w.heap.size W w'))
  have hws := Lib.hid (fun (l s : List UInt8) (W : World) (h : IsBu w.heap.size w.heap.size (Lib.byteCells l) W) (hlen : l.length ≤ 10000000) (hls : s.length ≤ 10) (hB : w.heap.size ≤ W.heap.size) => (by
    have := writeString_any w.heap.size w.heap.size (Lib.byteCells l) ⟨s.toArray⟩ W h (by rw [byteCells_len]; show _ + s.toArray.size ≤ _; simp; omega) hB
    refine this.mono ?_
    rintro e w' ⟨rfl, h1, h2⟩
    exact ⟨rfl, by rw [byteCells_app, ← strCells_list]; exact h1, h2⟩ : Calls Tryz.prog 56 #[.pointer (some ⟨w.heap.size, 0, none⟩), strV s] W fun e w' => e = .returned (.tuple #[.int .i64 (⟨s.toArray⟩ : ByteArray).size, .nilIface]) ∧ BuAt w.heap.size w.heap.size (Lib.byteCells (l ++ s)) w' ∧ Below w.heap.size W w'))
  have hst := Lib.hid (fun (l : List UInt8) (W : World) (h : IsBu w.heap.size w.heap.size (Lib.byteCells l) W) (hB : w.heap.size ≤ W.heap.size) => Tryz.Builder_String_any w.heap.size w.heap.size l W h hB)
  have hb0 : IsBu w.heap.size w.heap.size (Lib.byteCells []) (w.alloc (.cells #[.pointer none, .slice none 0 0] 100)) := .inl ⟨Nat.le_refl _, .slice none 0 0, heap_alloc_new w _, World.ownsRow_nil _ _ _ _, by simp [Value.ownBlock]⟩
  replace hb0 := Lib.hid hb0
  replace hs := Lib.hid hs
  go_enter Tryz.func27, Tryz.ntmps27
  go_wp2_with (go_at_call 55; refine (hwb.out [] 34 _ hb0.out (by simp) (by simp)).mono ?_; rintro e w2 ⟨rfl, hu2, hb2⟩)
  replace hu2 : BuAt w.heap.size w.heap.size (Lib.byteCells [34]) w2 := hu2
  replace hu2 := Lib.hid hu2
  have hb2' : Below w.heap.size w w2 := (bl_alloc (Below.refl _ _) _).trans hb2
  replace hb2' := Lib.hid hb2'
  clear hb2 hb0
  go_loopg [9] xs.length (fun gh i wr => ∃ k : Nat, gh = xs.length - k ∧ i = .int .i64 (k : Int) ∧ k ≤ xs.length ∧ BuAt w.heap.size w.heap.size (Lib.byteCells (34 :: (xs.take k).flatMap quoteB)) wr ∧ Below w.heap.size w wr)
  case atStart => exact ⟨0, rfl, rfl, by omega, hu2.out, hb2'.out⟩
  case round =>
    clear hu2 hb2'
    obtain ⟨k, rfl, rfl, hk, hu, hb⟩ := hrel
    have hfl := flat_len (xs.take k)
    rw [List.length_take] at hfl
    have hsz := hb.size
    replace hu := Lib.hid hu
    by_cases hlt : k < xs.length
    · obtain ⟨p, o, rfl, hp, hr⟩ := hs.out (by omega)
      have hrow := Lib.hid (fun (W : World) (hW : Below w.heap.size w W) => (hW.cell (p := ⟨p, o + k, none⟩) hp).trans (hr k hlt))
      have c1 := hrow.out wr hb
      have hsn := flat_snoc hlt
      clear hr
      generalize hF : (xs.take k).flatMap quoteB = F at *
      replace hF := Lib.hid hF
      by_cases hc : xs[k].toNat = 34
      · have q1 : ((xs[k].toNat : Int) == 34) = true := by simp; omega
        have e1 : (xs.take (k + 1)).flatMap quoteB = F ++ [92, 34] := by rw [hsn]; unfold quoteB; rw [if_pos hc]
        have e2 : markS xs[k] = [34] := by unfold markS; rw [if_neg (by omega), if_neg (by omega), if_pos (by omega)]; rw [show xs[k] = 34 from UInt8.toNat_inj.1 hc]
        have hm := hmk.out xs[k]
        rw [e2] at hm
        replace hm := Lib.hid hm
        replace e1 := Lib.hid e1
        clear hsn hc e2
        generalize xs[k] = c at *
        replace hb := Lib.hid hb
        go_wp2_with (first
          | (go_at_call 55; refine (hwb.out (34 :: F) 92 _ (.inr hu.out) (by simp; omega) (by omega)).mono ?_; rintro e w6 ⟨rfl, hu6, hb6⟩; have hB6 := Lib.hid (hb.out.trans hb6); have hz6 := hb6.size; replace hu6 := Lib.hid hu6; clear hb6)
          | (go_at_call 57; refine (hm.out _).mono ?_; rintro e w7 ⟨rfl, hb7⟩; have hB7 := Lib.hid (bl_trans hB6.out hb7); have hz7 := hb7.size; have hu7 := Lib.hid (bu_below hu6.out hb7); clear hb7)
          | (go_at_call 56; refine (hws.out ((34 :: F) ++ [92]) [34] _ (.inr hu7.out) (by simp; omega) (by simp) (by omega)).mono ?_; rintro e w8 ⟨rfl, hu8, hb8⟩; have hB8 := Lib.hid (hB7.out.trans hb8); replace hu8 := Lib.hid hu8; clear hb8))
        all_goals go_roundg (xs.length - (k + 1))
        case measure => omega
        case rel => exact ⟨k + 1, rfl, by go_num, by omega, by rw [e1.out]; have := hu8.out; simpa using this, hB8.out⟩
      · have q1 : ((xs[k].toNat : Int) == 34) = false := by simp; omega
        have e1 : (xs.take (k + 1)).flatMap quoteB = F ++ markS xs[k] := by rw [hsn]; unfold quoteB; rw [if_neg hc]
        have hm := Lib.hid (hmk.out xs[k])
        have lm := markS_len xs[k]
        replace e1 := Lib.hid e1
        clear hsn hc
        generalize hM : markS xs[k] = M at *
        replace hM := Lib.hid hM
        generalize xs[k] = c at *
        replace hb := Lib.hid hb
        go_wp2_with (first
          | (go_at_call 57; refine (hm.out _).mono ?_; rintro e w7 ⟨rfl, hb7⟩; have hB7 := Lib.hid (bl_trans hb.out hb7); have hz7 := hb7.size; have hu7 := Lib.hid (bu_below hu.out hb7); clear hb7)
          | (go_at_call 56; refine (hws.out (34 :: F) M _ (.inr hu7.out) (by simp; omega) (by omega) (by omega)).mono ?_; rintro e w8 ⟨rfl, hu8, hb8⟩; have hB8 := Lib.hid (hB7.out.trans hb8); replace hu8 := Lib.hid hu8; clear hb8))
        all_goals go_roundg (xs.length - (k + 1))
        case measure => omega
        case rel => exact ⟨k + 1, rfl, by go_num, by omega, by rw [e1.out]; exact hu8.out, hB8.out⟩
    · obtain rfl : k = xs.length := by omega
      rw [List.take_length] at *
      have e1 := Lib.hid (show (34 :: xs.flatMap quoteB) ++ [34] = quoteS xs from rfl)
      generalize xs.flatMap quoteB = F at *
      replace hb := Lib.hid hb
      go_wp2_with (first
        | (go_at_call 55; refine (hwb.out (34 :: F) 34 _ (.inr hu.out) (by simp; omega) (by omega)).mono ?_; rintro e w6 ⟨rfl, hu6, hb6⟩; have hB6 := Lib.hid (hb.out.trans hb6); have hz6 := hb6.size; replace hu6 := Lib.hid hu6; clear hb6)
        | (go_at_call 58; refine (hst.out ((34 :: F) ++ [34]) _ (.inr hu6.out) (by omega)).mono ?_; rintro e w8 ⟨rfl, hb8⟩; have hB8 := Lib.hid (hB6.out.trans hb8); clear hb8))
      all_goals go_ret
      all_goals exact ⟨congrArg (fun s => Ending.returned (strV s)) e1.out, hB8.out⟩
end Go.Proofs.YtepdfkgadigafaaGreatDoor.SH
/-
  The plain law of Unquote, of chapter 04: what a quote says; lists alone, no program in sight.
  Conditions: as each theorem states them.
-/
namespace Go.Proofs.YtepdfkgadigafaaGreatDoor.SH
open Go.Proofs.YtepdfkgadigafaaGreatDoor
set_option linter.unusedVariables false
set_option linter.unusedSimpArgs false
theorem esc_mark (c : UInt8) (h : c.toNat ≠ 34) (hp : ¬ (32 ≤ c.toNat ∧ c.toNat < 127 ∧ c.toNat ≠ 92)) (r : List UInt8) : ∃ q n, markS c = 92 :: q ∧ escS (q ++ r) = .ok (c, n) ∧ n = q.length := by
  have key : ∀ n : Nat, n < 256 → n ≠ 34 → ¬ (32 ≤ n ∧ n < 127 ∧ n ≠ 92) → (n = 92 ∨ (7 ≤ n ∧ n < 14) ∨ (¬ (7 ≤ n ∧ n < 14) ∧ ¬ (32 ≤ n ∧ n < 127) ∧ n ≠ 92)) := by omega
  have hc := UInt8.toNat_lt c
  rcases key c.toNat hc h hp with h1 | h1 | ⟨h1, h2, h3⟩
  · refine ⟨[92], 1, by unfold markS; rw [if_pos h1], ?_, rfl⟩
    have : c = 92 := UInt8.toNat_inj.1 h1
    subst this; rfl
  · have h9 : c.toNat ≠ 92 := by omega
    refine ⟨[lettersW.getD (c.toNat - 7) 0], 1, by unfold markS; rw [if_neg h9, if_pos h1], ?_, rfl⟩
    have h8 : c.toNat = 7 ∨ c.toNat = 8 ∨ c.toNat = 9 ∨ c.toNat = 10 ∨ c.toNat = 11 ∨ c.toNat = 12 ∨ c.toNat = 13 := by omega
    have hu : ∀ m : Nat, c.toNat = m → c = UInt8.ofNat m := fun m hm => by rw [← hm]; simp
    rcases h8 with e | e | e | e | e | e | e <;> (rw [hu _ e]; rfl)
  · refine ⟨oct3 c.toNat, 3, by unfold markS; rw [if_neg h3, if_neg h1, if_neg h2], ?_, rfl⟩
    have ht : ∀ m : Nat, m < 256 → (UInt8.ofNat m).toNat = m := fun m hm => ofNat_toNat hm
    have a0 := ht (48 + c.toNat / 64) (by omega)
    have a1 := ht (48 + c.toNat / 8 % 8) (by omega)
    have a2 := ht (48 + c.toNat % 8) (by omega)
    have o0 : octB (UInt8.ofNat (48 + c.toNat / 64)) = true := by unfold octB; rw [a0]; simp; omega
    have o1 : octB (UInt8.ofNat (48 + c.toNat / 8 % 8)) = true := by unfold octB; rw [a1]; simp; omega
    have o2 : octB (UInt8.ofNat (48 + c.toNat % 8)) = true := by unfold octB; rw [a2]; simp; omega
    have hone : oneS (UInt8.ofNat (48 + c.toNat / 64)) = none := by
      have : ∀ m : Nat, m < 4 → oneS (UInt8.ofNat (48 + m)) = none := by decide
      exact this _ (by omega)
    unfold escS oct3
    simp only [List.cons_append, List.nil_append, hone]
    unfold octS
    simp only [o0, o1, o2, a0, a1, a2]
    have e : (48 + c.toNat / 64 - 48) * 64 + (48 + c.toNat / 8 % 8 - 48) * 8 + (48 + c.toNat % 8 - 48) = c.toNat := by omega
    rw [e]
    simp [show ¬ 255 < c.toNat by omega]
/-- what is quoted is read as it was -/
theorem unq_quote : ∀ (l out : List UInt8) (a : Nat) (r : List UInt8), (unqS out a (l.flatMap quoteB ++ 34 :: r)).1 = out ++ l ∧ (unqS out a (l.flatMap quoteB ++ 34 :: r)).2.2 = 0 := by
  intro l
  induction l with
  | nil => intro out a r; rw [List.flatMap_nil, List.nil_append, unqS_end]; simp
  | cons c l ih =>
    intro out a r
    rw [List.flatMap_cons, List.append_assoc]
    by_cases h34 : c.toNat = 34
    · have : c = 34 := UInt8.toNat_inj.1 h34
      subst this
      rw [show quoteB 34 = [92, 34] from rfl, List.cons_append, List.cons_append, List.nil_append, unqS_esc out a (34 :: (l.flatMap quoteB ++ 34 :: r)) 34 1 rfl]
      have := ih (out ++ [34]) (a + 1 + 1) r
      simpa using this
    · have hq : quoteB c = markS c := by unfold quoteB; rw [if_neg h34]
      rw [hq]
      by_cases hp : 32 ≤ c.toNat ∧ c.toNat < 127 ∧ c.toNat ≠ 92
      · have hm : markS c = [c] := by unfold markS; rw [if_neg hp.2.2, if_neg (by omega), if_pos ⟨hp.1, hp.2.1⟩]
        rw [hm, List.cons_append, List.nil_append, unqS_plain _ _ _ _ (fun e => h34 (by rw [e]; rfl)) (fun e => hp.2.2 (by rw [e]; rfl))]
        have := ih (out ++ [c]) (a + 1) r
        simpa using this
      · obtain ⟨q, n, hm, he, hn⟩ := esc_mark c h34 hp (l.flatMap quoteB ++ 34 :: r)
        rw [hm, List.cons_append, unqS_esc out a _ c n he, hn, List.drop_left]
        have := ih (out ++ [c]) (a + 1 + q.length) r
        simpa using this
theorem unquote_quote (l : List UInt8) : (unquoteS (quoteS l) 0).1 = l ∧ (unquoteS (quoteS l) 0).2.2 = 0 := by
  have h := unq_quote l [] 1 []
  unfold unquoteS quoteS
  rw [if_neg (by simp; omega)]
  simpa using h
/-- .. and the place behind it -/
theorem unq_full : ∀ (l out : List UInt8) (a : Nat) (r : List UInt8), unqS out a (l.flatMap quoteB ++ 34 :: r) = (out ++ l, ((a + (l.flatMap quoteB).length + 1 : Nat) : Int), 0) := by
  intro l
  induction l with
  | nil => intro out a r; rw [List.flatMap_nil, List.nil_append, unqS_end]; simp
  | cons c l ih =>
    intro out a r
    rw [List.flatMap_cons, List.append_assoc]
    by_cases h34 : c.toNat = 34
    · have : c = 34 := UInt8.toNat_inj.1 h34
      subst this
      rw [show quoteB 34 = [92, 34] from rfl, List.cons_append, List.cons_append, List.nil_append, unqS_esc out a (34 :: (l.flatMap quoteB ++ 34 :: r)) 34 1 rfl]
      have := ih (out ++ [34]) (a + 1 + 1) r
      rw [List.drop_succ_cons, List.drop_zero, this]
      simp only [List.append_assoc, List.cons_append, List.nil_append, List.length_cons, Prod.mk.injEq, and_true, true_and]
      omega
    · have hq : quoteB c = markS c := by unfold quoteB; rw [if_neg h34]
      rw [hq]
      by_cases hp : 32 ≤ c.toNat ∧ c.toNat < 127 ∧ c.toNat ≠ 92
      · have hm : markS c = [c] := by unfold markS; rw [if_neg hp.2.2, if_neg (by omega), if_pos ⟨hp.1, hp.2.1⟩]
        rw [hm, List.cons_append, List.nil_append, unqS_plain _ _ _ _ (fun e => h34 (by rw [e]; rfl)) (fun e => hp.2.2 (by rw [e]; rfl))]
        have := ih (out ++ [c]) (a + 1) r
        rw [this]
        simp only [List.append_assoc, List.cons_append, List.nil_append, List.length_cons, Prod.mk.injEq, and_true, true_and]
        omega
      · obtain ⟨q, n, hm, he, hn⟩ := esc_mark c h34 hp (l.flatMap quoteB ++ 34 :: r)
        rw [hm, List.cons_append, unqS_esc out a _ c n he, hn, List.drop_left]
        have := ih (out ++ [c]) (a + 1 + q.length) r
        rw [this]
        simp only [List.append_assoc, List.cons_append, List.nil_append, List.length_cons, List.length_append, Prod.mk.injEq, and_true, true_and]
        omega
end Go.Proofs.YtepdfkgadigafaaGreatDoor.SH
