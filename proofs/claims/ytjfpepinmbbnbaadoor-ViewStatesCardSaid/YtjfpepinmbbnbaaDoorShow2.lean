/-
  The contracts of Quote, of chapter 04: the program's by a builder, the reference's.
  Conditions: as each theorem states them.
-/
import Derived.Test.YtjfpepinmbbnbaaDoorShow1
import Derived.Test.YtjfpepinmbbnbaaDoorBack1
namespace Go.Proofs.YtjfpepinmbbnbaaDoor
open Go.RowKit
set_option linter.unusedVariables false
set_option linter.unusedSimpArgs false
def quoteB (c : UInt8) : List UInt8 := if c.toNat = 34 then [92, 34] else markS c
/-- a text's quote -/
def quoteS (l : List UInt8) : List UInt8 := 34 :: (l.flatMap quoteB ++ [34])
theorem quoteB_len (c : UInt8) : (quoteB c).length ≤ 4 := by unfold quoteB; split; simp; exact markS_len c
theorem flat_len (l : List UInt8) : (l.flatMap quoteB).length ≤ 4 * l.length := by
  induction l with
  | nil => simp
  | cons c l ih => rw [List.flatMap_cons, List.length_append, List.length_cons]; have := quoteB_len c; omega
theorem flat_snoc {l : List UInt8} {k : Nat} (hk : k < l.length) : (l.take (k + 1)).flatMap quoteB = (l.take k).flatMap quoteB ++ quoteB l[k] := by
  rw [List.take_succ_eq_append_getElem hk, List.flatMap_append]; simp
theorem strCells_list (l : List UInt8) : Lib.strCells ⟨l.toArray⟩ = Lib.byteCells l := by simp [Lib.strCells, Lib.byteCells]
theorem byteCells_app (a b : List UInt8) : Lib.byteCells (a ++ b) = Lib.byteCells a ++ Lib.byteCells b := by simp [Lib.byteCells]
theorem byteCells_len (a : List UInt8) : (Lib.byteCells a).length = a.length := by simp [Lib.byteCells]
/-- a row of bytes, or none -/
def BytesAt (w : World) (ba : Option Addr) (xs : List UInt8) : Prop := 0 < xs.length → ∃ p o, ba = some ⟨p, o, none⟩ ∧ p < w.heap.size ∧ ByteRow w p o xs
theorem BytesAt.below {w w' : World} {ba : Option Addr} {xs : List UInt8} (h : BytesAt w ba xs) (hb : Below w.heap.size w w') : BytesAt w' ba xs := fun h0 => by
  obtain ⟨p, o, e, hp, hr⟩ := h h0
  exact ⟨p, o, e, Nat.lt_of_lt_of_le hp hb.size, fun i hi => (hb.cell (p := ⟨p, o + i, none⟩) hp).trans (hr i hi)⟩
set_option maxHeartbeats 2000000 in
set_option maxRecDepth 100000 in
theorem rquote_any (ba : Option Addr) (bc : Nat) (xs : List UInt8) (w : World) (hl : xs.length ≤ 1000000) (hs : BytesAt w ba xs) :
    Calls Tryd.prog 71 #[.slice ba xs.length bc] w (ByteIs (quoteS xs) w) := by
  have hmk := Lib.hid (fun (c : UInt8) (W : World) => rmark_any c W)
  replace hs := Lib.hid hs
  go_enter Tryd.func71, Tryd.ntmps71
  go_wp2_with fail
  go_loopg [3, 4] xs.length (fun gh v i wr => ∃ k : Nat, gh = xs.length - k ∧ i = .int .i64 (k : Int) ∧ k ≤ xs.length ∧ v = strV (34 :: (xs.take k).flatMap quoteB) ∧ Below w.heap.size w wr)
  case atStart => exact ⟨0, rfl, rfl, by omega, rfl, Below.refl _ _⟩
  case round =>
    obtain ⟨k, rfl, rfl, hk, rfl, hb⟩ := hrel
    have hfl := flat_len (xs.take k)
    rw [List.length_take] at hfl
    by_cases hlt : k < xs.length
    · obtain ⟨p, o, rfl, hp, hr⟩ := hs.out (by omega)
      have hrow := Lib.hid (fun (W : World) (hW : Below w.heap.size w W) => (hW.cell (p := ⟨p, o + k, none⟩) hp).trans (hr k hlt))
      have c1 := hrow.out wr hb
      have hsn := flat_snoc hlt
      have lq := quoteB_len xs[k]
      clear hr
      generalize hF : (xs.take k).flatMap quoteB = F at *
      replace hF := Lib.hid hF
      by_cases hc : xs[k].toNat = 34
      · have q1 : ((xs[k].toNat : Int) == 34) = true := by simp; omega
        have e1 : (xs.take (k + 1)).flatMap quoteB = F ++ [92, 34] := by rw [hsn]; unfold quoteB; rw [if_pos hc]
        replace e1 := Lib.hid e1
        clear hsn hc
        generalize xs[k] = c at *
        go_wp2_with fail
        all_goals go_roundg (xs.length - (k + 1))
        case measure => omega
        case rel => exact ⟨k + 1, rfl, by go_num, by omega, by rw [e1.out]; exact congrArg Value.string (ba_add1 (34 :: F) [92, 34]), hb⟩
      · have q1 : ((xs[k].toNat : Int) == 34) = false := by simp; omega
        have e1 : (xs.take (k + 1)).flatMap quoteB = F ++ markS xs[k] := by rw [hsn]; unfold quoteB; rw [if_neg hc]
        have hm := Lib.hid (hmk.out xs[k])
        have lm := markS_len xs[k]
        replace e1 := Lib.hid e1
        clear hsn hc
        generalize hM : markS xs[k] = M at *
        replace hM := Lib.hid hM
        generalize xs[k] = c at *
        go_wp2_with (go_at_call 69; refine (hm.out _).mono ?_; rintro e w7 ⟨rfl, hb7⟩)
        all_goals go_roundg (xs.length - (k + 1))
        case measure => omega
        case rel => exact ⟨k + 1, rfl, by go_num, by omega, by rw [e1.out]; exact congrArg Value.string (ba_add1 (34 :: F) M), bl_trans hb hb7⟩
    · obtain rfl : k = xs.length := by omega
      rw [List.take_length] at *
      have e1 := Lib.hid (show (34 :: xs.flatMap quoteB) ++ [34] = quoteS xs from rfl)
      generalize xs.flatMap quoteB = F at *
      go_wp2_with fail
      all_goals go_ret
      all_goals exact ⟨by rw [← e1.out]; exact congrArg (fun s => Ending.returned (Value.string s)) (ba_add1 (34 :: F) [34]), hb⟩
theorem bu_below {B b : Nat} {bs : List Value} {w w' : World} (h : BuAt B b bs w) (hb : Below w.heap.size w w') : BuAt B b bs w' := by
  obtain ⟨hB, v, hbk, hown, hne⟩ := h
  exact ⟨hB, v, (hb.block b (Array.getElem?_eq_some_iff.1 hbk).1).trans hbk, own_blw hown hb, hne⟩
set_option maxHeartbeats 4000000 in
set_option maxRecDepth 100000 in
theorem quote_any (ba : Option Addr) (bc : Nat) (xs : List UInt8) (w : World) (hl : xs.length ≤ 1000000) (hs : BytesAt w ba xs) :
    Calls Tryd.prog 65 #[.slice ba xs.length bc] w (ByteIs (quoteS xs) w) := by
  have hmk := Lib.hid (fun (c : UInt8) (W : World) => mark_any c W)
  have hwb := Lib.hid (fun (l : List UInt8) (c : UInt8) (W : World) (h : IsBu w.heap.size w.heap.size (Lib.byteCells l) W) (hlen : l.length ≤ 10000000) (hB : w.heap.size ≤ W.heap.size) => (by
    have := writeByte_any w.heap.size w.heap.size (Lib.byteCells l) c.toNat W h (by rw [byteCells_len]; omega) hB
    refine this.mono ?_
    rintro e w' ⟨rfl, h1, h2⟩
    exact ⟨rfl, by rw [byteCells_app]; exact h1, h2⟩ : Calls Tryd.prog 87 #[.pointer (some ⟨w.heap.size, 0, none⟩), .int .u8 c.toNat] W fun e w' => e = .returned .nilIface ∧ BuAt w.heap.size w.heap.size (Lib.byteCells (l ++ [c])) w' ∧ Below w.heap.size W w'))
  have hws := Lib.hid (fun (l s : List UInt8) (W : World) (h : IsBu w.heap.size w.heap.size (Lib.byteCells l) W) (hlen : l.length ≤ 10000000) (hls : s.length ≤ 10) (hB : w.heap.size ≤ W.heap.size) => (by
    have := writeString_any w.heap.size w.heap.size (Lib.byteCells l) ⟨s.toArray⟩ W h (by rw [byteCells_len]; show _ + s.toArray.size ≤ _; simp; omega) hB
    refine this.mono ?_
    rintro e w' ⟨rfl, h1, h2⟩
    exact ⟨rfl, by rw [byteCells_app, ← strCells_list]; exact h1, h2⟩ : Calls Tryd.prog 78 #[.pointer (some ⟨w.heap.size, 0, none⟩), strV s] W fun e w' => e = .returned (.tuple #[.int .i64 (⟨s.toArray⟩ : ByteArray).size, .nilIface]) ∧ BuAt w.heap.size w.heap.size (Lib.byteCells (l ++ s)) w' ∧ Below w.heap.size W w'))
  have hst := Lib.hid (fun (l : List UInt8) (W : World) (h : IsBu w.heap.size w.heap.size (Lib.byteCells l) W) (hB : w.heap.size ≤ W.heap.size) => Tryd.Builder_String_any w.heap.size w.heap.size l W h hB)
  have hb0 : IsBu w.heap.size w.heap.size (Lib.byteCells []) (w.alloc (.cells #[.pointer none, .slice none 0 0] 111)) := .inl ⟨Nat.le_refl _, .slice none 0 0, heap_alloc_new w _, World.ownsRow_nil _ _ _ _, by simp [Value.ownBlock]⟩
  replace hb0 := Lib.hid hb0
  replace hs := Lib.hid hs
  go_enter Tryd.func65, Tryd.ntmps65
  go_wp2_with (go_at_call 87; refine (hwb.out [] 34 _ hb0.out (by simp) (by simp)).mono ?_; rintro e w2 ⟨rfl, hu2, hb2⟩)
  replace hu2 : BuAt w.heap.size w.heap.size (Lib.byteCells [34]) w2 := hu2
  replace hu2 := Lib.hid hu2
  have hb2' : Below w.heap.size w w2 := (bl_alloc (Below.refl _ _) _).trans hb2
  replace hb2' := Lib.hid hb2'
  clear hb2 hb0
  go_loopg [9] xs.length (fun gh i wr => ∃ k : Nat, gh = xs.length - k ∧ i = .int .i64 (k : Int) ∧ k ≤ xs.length ∧ BuAt w.heap.size w.heap.size (Lib.byteCells (34 :: (xs.take k).flatMap quoteB)) wr ∧ Below w.heap.size w wr)
  case atStart => exact ⟨0, rfl, rfl, by omega, hu2.out, hb2'.out⟩
  case round =>
    clear hu2 hb2'
    obtain ⟨k, rfl, rfl, hk, hu, hb⟩ := hrel
    have hfl := flat_len (xs.take k)
    rw [List.length_take] at hfl
    have hsz := hb.size
    replace hu := Lib.hid hu
    by_cases hlt : k < xs.length
    · obtain ⟨p, o, rfl, hp, hr⟩ := hs.out (by omega)
      have hrow := Lib.hid (fun (W : World) (hW : Below w.heap.size w W) => (hW.cell (p := ⟨p, o + k, none⟩) hp).trans (hr k hlt))
      have c1 := hrow.out wr hb
      have hsn := flat_snoc hlt
      clear hr
      generalize hF : (xs.take k).flatMap quoteB = F at *
      replace hF := Lib.hid hF
      by_cases hc : xs[k].toNat = 34
      · have q1 : ((xs[k].toNat : Int) == 34) = true := by simp; omega
        have e1 : (xs.take (k + 1)).flatMap quoteB = F ++ [92, 34] := by rw [hsn]; unfold quoteB; rw [if_pos hc]
        have e2 : markS xs[k] = [34] := by unfold markS; rw [if_neg (by omega), if_neg (by omega), if_pos (by omega)]; rw [show xs[k] = 34 from UInt8.toNat_inj.1 hc]
        have hm := hmk.out xs[k]
        rw [e2] at hm
        replace hm := Lib.hid hm
        replace e1 := Lib.hid e1
        clear hsn hc e2
        generalize xs[k] = c at *
        replace hb := Lib.hid hb
        go_wp2_with (first
          | (go_at_call 87; refine (hwb.out (34 :: F) 92 _ (.inr hu.out) (by simp; omega) (by omega)).mono ?_; rintro e w6 ⟨rfl, hu6, hb6⟩; have hB6 := Lib.hid (hb.out.trans hb6); have hz6 := hb6.size; replace hu6 := Lib.hid hu6; clear hb6)
          | (go_at_call 88; refine (hm.out _).mono ?_; rintro e w7 ⟨rfl, hb7⟩; have hB7 := Lib.hid (bl_trans hB6.out hb7); have hz7 := hb7.size; have hu7 := Lib.hid (bu_below hu6.out hb7); clear hb7)
          | (go_at_call 78; refine (hws.out ((34 :: F) ++ [92]) [34] _ (.inr hu7.out) (by simp; omega) (by simp) (by omega)).mono ?_; rintro e w8 ⟨rfl, hu8, hb8⟩; have hB8 := Lib.hid (hB7.out.trans hb8); replace hu8 := Lib.hid hu8; clear hb8))
        all_goals go_roundg (xs.length - (k + 1))
        case measure => omega
        case rel => exact ⟨k + 1, rfl, by go_num, by omega, by rw [e1.out]; have := hu8.out; simpa using this, hB8.out⟩
      · have q1 : ((xs[k].toNat : Int) == 34) = false := by simp; omega
        have e1 : (xs.take (k + 1)).flatMap quoteB = F ++ markS xs[k] := by rw [hsn]; unfold quoteB; rw [if_neg hc]
        have hm := Lib.hid (hmk.out xs[k])
        have lm := markS_len xs[k]
        replace e1 := Lib.hid e1
        clear hsn hc
        generalize hM : markS xs[k] = M at *
        replace hM := Lib.hid hM
        generalize xs[k] = c at *
        replace hb := Lib.hid hb
        go_wp2_with (first
          | (go_at_call 88; refine (hm.out _).mono ?_; rintro e w7 ⟨rfl, hb7⟩; have hB7 := Lib.hid (bl_trans hb.out hb7); have hz7 := hb7.size; have hu7 := Lib.hid (bu_below hu.out hb7); clear hb7)
          | (go_at_call 78; refine (hws.out (34 :: F) M _ (.inr hu7.out) (by simp; omega) (by omega) (by omega)).mono ?_; rintro e w8 ⟨rfl, hu8, hb8⟩; have hB8 := Lib.hid (hB7.out.trans hb8); replace hu8 := Lib.hid hu8; clear hb8))
        all_goals go_roundg (xs.length - (k + 1))
        case measure => omega
        case rel => exact ⟨k + 1, rfl, by go_num, by omega, by rw [e1.out]; exact hu8.out, hB8.out⟩
    · obtain rfl : k = xs.length := by omega
      rw [List.take_length] at *
      have e1 := Lib.hid (show (34 :: xs.flatMap quoteB) ++ [34] = quoteS xs from rfl)
      generalize xs.flatMap quoteB = F at *
      replace hb := Lib.hid hb
      go_wp2_with (first
        | (go_at_call 87; refine (hwb.out (34 :: F) 34 _ (.inr hu.out) (by simp; omega) (by omega)).mono ?_; rintro e w6 ⟨rfl, hu6, hb6⟩; have hB6 := Lib.hid (hb.out.trans hb6); have hz6 := hb6.size; replace hu6 := Lib.hid hu6; clear hb6)
        | (go_at_call 79; refine (hst.out ((34 :: F) ++ [34]) _ (.inr hu6.out) (by omega)).mono ?_; rintro e w8 ⟨rfl, hb8⟩; have hB8 := Lib.hid (hB6.out.trans hb8); clear hb8))
      all_goals go_ret
      all_goals exact ⟨congrArg (fun s => Ending.returned (strV s)) e1.out, hB8.out⟩
end Go.Proofs.YtjfpepinmbbnbaaDoor
