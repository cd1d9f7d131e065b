/-
  Contracts of the rings of package ring, of texts: New, Push, At, Low, High, Cut: each says what comes of the room, of low and high.
  Conditions: as each theorem states them; none beyond.
-/
import Derived.Test.YtfbimghnimepjaaRows
import Derived.Test.YtfbimghnimepjaaBase
import Derived.StillTailTactics
import Derived.Deep.Light
namespace Go.Proofs.Ytfbimghnimepjaa
open Go.RowKit
set_option linter.unusedVariables false

/-- a ring lies at block p, its room at block g -/
structure RingAt (RT ET : TypeId) (w : World) (p g : Nat) (room : List Value) (low high : Nat) : Prop where
  blk : Blk w p RT [.slice (some ⟨g, 0, none⟩) room.length room.length, .int .i64 low, .int .i64 high]
  row : Blk w g ET room
  ne : p ≠ g
  pos : 0 < room.length
  le : room.length ≤ 1000
  lh : low ≤ high
  hl : high ≤ low + room.length
theorem RingAt.of {RT ET : TypeId} {w w' : World} {p g : Nat} {room : List Value} {low high : Nat} (h : RingAt RT ET w p g room low high) (hp : w'.heap[p]? = w.heap[p]?) (hg : w'.heap[g]? = w.heap[g]?) : RingAt RT ET w' p g room low high :=
  ⟨h.blk.of_eq hp, h.row.of_eq hg, h.ne, h.pos, h.le, h.lh, h.hl⟩
theorem RingAt.below {RT ET : TypeId} {w w' : World} {p g : Nat} {room : List Value} {low high : Nat} (h : RingAt RT ET w p g room low high) (hb : Below w.heap.size w w') : RingAt RT ET w' p g room low high :=
  h.of (hb.block p h.blk.lt) (hb.block g h.row.lt)
theorem toNat_mod (a b : Nat) : ((a : Int) % (b : Int)).toNat = a % b := by omega

set_option maxHeartbeats 1000000 in
theorem RingAt.stored {RT ET : TypeId} {w : World} {p g : Nat} {room : List Value} {low high : Nat} (h : RingAt RT ET w p g room low high) (x : Value) (L : Int) (hL : L = ((max low (high + 1 - room.length) : Nat) : Int)) :
    RingAt RT ET ((((w.setCell ⟨g, high % room.length, none⟩ x).setCell ⟨p, 2, none⟩ (.int .i64 ((high : Int) + 1))).setCell ⟨p, 1, none⟩ (.int .i64 L)).drew.drew) p g (room.set (high % room.length) x) (max low (high + 1 - room.length)) (high + 1) ∧
      Only (fun k => k = p ∨ k = g) w ((((w.setCell ⟨g, high % room.length, none⟩ x).setCell ⟨p, 2, none⟩ (.int .i64 ((high : Int) + 1))).setCell ⟨p, 1, none⟩ (.int .i64 L)).drew.drew) := by
  obtain ⟨hp, hg, hne, hpos, hle, hlh, hhl⟩ := h
  refine ⟨⟨?_, ?_, hne, by simpa using hpos, by simpa using hle, by omega, by simp; omega⟩, ?_⟩
  · have h1 := ((hp.set_other (p := ⟨g, high % room.length, none⟩) (Ne.symm hne) x).set 2 (.int .i64 ((high : Int) + 1))).set 1 (.int .i64 L)
    rw [hL] at h1 ⊢
    simp only [List.length_set]
    refine Blk.drew (Blk.drew ?_)
    simpa using h1
  · exact ((hg.set (high % room.length) x).set_other (p := ⟨p, 2, none⟩) hne _).set_other (p := ⟨p, 1, none⟩) hne _
  · exact ((((Only.refl _ _).setCell (p := ⟨g, _, none⟩) (.inr rfl) _).setCell (p := ⟨p, 2, none⟩) (.inl rfl) _).setCell (p := ⟨p, 1, none⟩) (.inl rfl) _).drew.drew






theorem RingAt.cutTo {RT ET : TypeId} {w : World} {p g : Nat} {room : List Value} {low high to : Nat} (h : RingAt RT ET w p g room low high) (hx : to ≤ high) (hy : low ≤ to) :
    RingAt RT ET (w.setCell ⟨p, 2, none⟩ (.int .i64 to)).drew p g room low to ∧ Only (fun k => k = p ∨ k = g) w (w.setCell ⟨p, 2, none⟩ (.int .i64 to)).drew := by
  obtain ⟨hp, hg, hne, hpos, hle, hlh, hhl⟩ := h
  refine ⟨⟨?_, ?_, hne, hpos, hle, hy, by omega⟩, ((Only.refl _ _).setCell (p := ⟨p, 2, none⟩) (.inl rfl) _).drew⟩
  · have h1 := hp.set 2 (.int .i64 to)
    refine Blk.drew ?_
    simpa using h1
  · exact hg.set_other (p := ⟨p, 2, none⟩) hne _
theorem make_full {P : Program} {t e : TypeId} {z : Value} {bytes : Nat} (ht : P.underlying t = some (.slice e)) (hi : (P.info? e).map (fun i => (i.zero, i.size, i.bytes)) = some (some z, 1, bytes)) (hz : z.cells = #[z]) (c : Nat) (hb : (bytes : Int) * c ≤ 281474976710656) (h63 : (c : Int) ≤ 9223372036854775807) (w : World) :
    (Instr.makeSlice t (.int .i64 c) (.int .i64 c)).run P w = .ok (.slice (some ⟨w.heap.size, 0, none⟩) c c) (w.alloc (.cells (List.replicate c z).toArray e)) := by
  obtain ⟨i, h1, h2, h3, h4⟩ := info_parts hi
  have := run_make w t e i z ht h1 h2 .i64 .i64 c c (by omega) (Int.le_refl _) (by rw [h4]; exact hb) h63
  rw [this, h3, hz]
  have hm : madeCells #[z] ((c : Int).toNat * 1) = (List.replicate c z).toArray := by
    apply Array.toList_inj.1
    simp only [madeCells, Int.toNat_natCast, Nat.mul_one]
    apply List.ext_getElem
    · simp
    · intro j h1 h2
      simp [Nat.mod_one]
  rw [hm]
  simp
theorem mod_ne {a b n : Nat} (h : a < b) (hb : b < a + n) : a % n ≠ b % n := by
  intro e
  have h1 := Nat.div_add_mod a n
  have h2 := Nat.div_add_mod b n
  rw [e] at h1
  have hn : 0 < n := by omega
  have h3 : a / n ≠ b / n := fun e' => by rw [e'] at h1; omega
  have h4 : a / n ≤ b / n := Nat.div_le_div_right (Nat.le_of_lt h)
  have h5 : n * (a / n) + n ≤ n * (b / n) := by
    have : n * (a / n + 1) ≤ n * (b / n) := Nat.mul_le_mul_left n (by omega)
    rwa [Nat.mul_succ] at this
  omega

/-! ### rings of string -/
set_option maxRecDepth 100000 in
theorem push_str (x : ByteArray) (w : World) (p g : Nat) (room : List Value) (low high : Nat) (h : RingAt 105 9 w p g room low high) (hbig : high < 1099511627776) :
    Calls Try.prog 21 #[.pointer (some ⟨p, 0, none⟩), .string x] w fun e w' => e = .returned (.int .i64 high) ∧
      RingAt 105 9 w' p g (room.set (high % room.length) (.string x)) (max low (high + 1 - room.length)) (high + 1) ∧ Only (fun k => k = p ∨ k = g) w w' := by
  have hst := fun L hL => h.stored (.string x) L hL
  obtain ⟨hp, hg, hne, hpos, hle, hlh, hhl⟩ := h
  have c0 := hp.cell 0
  have c1 := hp.cell 1
  have c2 := hp.cell 2
  simp at c0 c1 c2
  have hlt : high % room.length < room.length := Nat.mod_lt _ hpos
  have cg := hg.cell (high % room.length)
  have fp := hp.free
  have fg := hg.free
  have f1 := fp 1
  have f2 := fp 2
  have f3 := fg (high % room.length)
  clear fp fg
  rw [List.getElem?_eq_getElem hlt] at cg
  have H := Lib.hid hst
  clear hst
  go_enter Try.func21, Try.ntmps21
  go_wp2_with fail
  go_region
  go_wp2_with fail
  go_region
  all_goals go_wp2_with fail
  all_goals go_ret
  all_goals exact ⟨rfl, H.out _ (by omega)⟩
theorem low_str (w : World) (p g : Nat) (room : List Value) (low high : Nat) (h : RingAt 105 9 w p g room low high) :
    Calls Try.prog 23 #[.pointer (some ⟨p, 0, none⟩)] w fun e w' => e = .returned (.int .i64 low) ∧ w = w' := by
  obtain ⟨hp, hg, hne, hpos, hle, hlh, hhl⟩ := h
  have c0 := hp.cell 0
  have c1 := hp.cell 1
  have c2 := hp.cell 2
  simp at c0 c1 c2
  go_enter Try.func23, Try.ntmps23
  go_wp2_with fail
  go_ret
  exact ⟨rfl, rfl⟩
theorem high_str (w : World) (p g : Nat) (room : List Value) (low high : Nat) (h : RingAt 105 9 w p g room low high) :
    Calls Try.prog 24 #[.pointer (some ⟨p, 0, none⟩)] w fun e w' => e = .returned (.int .i64 high) ∧ w = w' := by
  obtain ⟨hp, hg, hne, hpos, hle, hlh, hhl⟩ := h
  have c0 := hp.cell 0
  have c1 := hp.cell 1
  have c2 := hp.cell 2
  simp at c0 c1 c2
  go_enter Try.func24, Try.ntmps24
  go_wp2_with fail
  go_ret
  exact ⟨rfl, rfl⟩
theorem at_out_str (n : Int) (w : World) (p g : Nat) (room : List Value) (low high : Nat) (h : RingAt 105 9 w p g room low high) (hn : n < low ∨ (high : Int) ≤ n) :
    Calls Try.prog 22 #[.pointer (some ⟨p, 0, none⟩), .int .i64 n] w fun e w' => e = .returned (.tuple #[.string ⟨#[]⟩, .bool false]) ∧ w = w' := by
  obtain ⟨hp, hg, hne, hpos, hle, hlh, hhl⟩ := h
  have c0 := hp.cell 0
  have c1 := hp.cell 1
  have c2 := hp.cell 2
  simp at c0 c1 c2
  by_cases h0 : n < low
  · go_enter Try.func22, Try.ntmps22
    go_wp2_with fail
    go_ret2
    exact ⟨rfl, rfl⟩
  · have h1 : (high : Int) ≤ n := by omega
    go_enter Try.func22, Try.ntmps22
    go_wp2_with fail
    go_ret2
    exact ⟨rfl, rfl⟩
set_option maxRecDepth 100000 in
theorem at_in_str (n : Nat) (V : Value) (w : World) (p g : Nat) (room : List Value) (low high : Nat) (h : RingAt 105 9 w p g room low high) (hl : low ≤ n) (hh : n < high) (hV : room[n % room.length]? = some V) :
    Calls Try.prog 22 #[.pointer (some ⟨p, 0, none⟩), .int .i64 n] w fun e w' => e = .returned (.tuple #[V, .bool true]) ∧ ∃ m, w' = w.drewN m := by
  obtain ⟨hp, hg, hne, hpos, hle, hlh, hhl⟩ := h
  have c0 := hp.cell 0
  have c1 := hp.cell 1
  have c2 := hp.cell 2
  simp at c0 c1 c2
  have hl' : (low : Int) ≤ (n : Int) := by omega
  have hh' : (n : Int) < (high : Int) := by omega
  have cg := (hg.cell (n % room.length)).trans hV
  have hlt : n % room.length < room.length := Nat.mod_lt _ hpos
  have hV := Lib.hid hV
  clear hg
  go_enter Try.func22, Try.ntmps22
  go_wp2_with (go_quiet (fail))
  all_goals go_ret2
  all_goals exact ⟨rfl, _, rfl⟩
set_option maxRecDepth 100000 in
theorem new_str (c : Nat) (w : World) (h0 : 1 ≤ c) (h1 : c ≤ 1000) :
    Calls Try.prog 19 #[.int .i64 c] w fun e w' => ∃ p g, e = .returned (.tuple #[.pointer (some ⟨p, 0, none⟩), .int .i64 0]) ∧ w.heap.size ≤ p ∧ w.heap.size ≤ g ∧ RingAt 105 9 w' p g (List.replicate c (.string ⟨#[]⟩)) 0 0 ∧ Below w.heap.size w w' := by
  have hmk := make_full (P := Try.prog) (t := 46) (e := 9) (z := .string ⟨#[]⟩) (bytes := 16) Try.underlying46 (by kernel_rfl) rfl c (by omega) (by omega)
  have g0 : (1 : Int) ≤ c := by omega
  have g1 : (c : Int) ≤ 1000 := by omega
  go_enter Try.func19, Try.ntmps19
  go_wp2_with fail
  go_ret2
  have hb : Below w.heap.size w (w.alloc (.cells (List.replicate c (.string ⟨#[]⟩)).toArray 9)) := bl_alloc (Below.refl _ _) _
  refine ⟨w.heap.size + 1, w.heap.size, rfl, by omega, by omega, ⟨?_, ?_, by omega, by simp; omega, by simp; omega, by omega, by simp⟩, bl_alloc hb _⟩
  · have h := Blk.new (w.alloc (.cells (List.replicate c (.string ⟨#[]⟩)).toArray 9)) 105 [.slice (some ⟨w.heap.size, 0, none⟩) c c, .int .i64 0, .int .i64 0]
    simpa using h
  · exact (Blk.new w 9 (List.replicate c (.string ⟨#[]⟩))).alloc _
set_option maxRecDepth 100000 in
theorem cut_str (n : Int) (w : World) (p g : Nat) (room : List Value) (low high to : Nat) (h : RingAt 105 9 w p g room low high) (hbig : high < 1099511627776) (hto : (to : Int) = min (max n low) high) :
    Calls Try.prog 59 #[.pointer (some ⟨p, 0, none⟩), .int .i64 n] w fun e w' => ∃ room' : List Value, e = .returned (.int .i64 ((high - to : Nat) : Int)) ∧ room'.length = room.length ∧ (∀ i, low ≤ i → i < to → room'[i % room.length]? = room[i % room.length]?) ∧
      RingAt 105 9 w' p g room' low to ∧ Only (fun k => k = p ∨ k = g) w w' := by
  have hst := fun (hx : to ≤ high) (hy : low ≤ to) => h.cutTo hx hy
  obtain ⟨hp, hg, hne, hpos, hle, hlh, hhl⟩ := h
  have c0 := hp.cell 0
  have c1 := hp.cell 1
  have c2 := hp.cell 2
  simp at c0 c1 c2
  have fp := hp.free
  have f2 := fp 2
  clear fp
  have H := Lib.hid hst
  clear hst
  have done : ∀ (w1 : World) (room1 : List Value), RingAt 105 9 w1 p g room1 low to → room1.length = room.length → (∀ i, low ≤ i → i < to → room1[i % room.length]? = room[i % room.length]?) → Only (fun k => k = p ∨ k = g) w w1 → low ≤ to → to ≤ high →
      ∃ room' : List Value, Ending.returned (.int .i64 ((high : Int) - (to : Int))) = .returned (.int .i64 ((high - to : Nat) : Int)) ∧ room'.length = room.length ∧ (∀ i, low ≤ i → i < to → room'[i % room.length]? = room[i % room.length]?) ∧
      RingAt 105 9 w1 p g room' low to ∧ Only (fun k => k = p ∨ k = g) w w1 := fun w1 room1 a b c d e f =>
    ⟨room1, ret_int (by omega), b, c, a, d⟩
  have done := Lib.hid done
  have main : ∀ m : Int, m = n → ((m = (to : Int) ∨ m < low ∧ to = low) ∧ to ≤ high ∧ low ≤ to) ∨ ((high : Int) < m ∧ to = high) := by omega
  rcases main n rfl with ⟨hn, q3, q4⟩ | ⟨q1, rfl⟩
  · have hh := H.out q3 q4
    clear hto main
    replace hh := Lib.hid hh
    rcases hn with rfl | ⟨q1, rfl⟩
    · go_enter Try.func59, Try.ntmps59
      go_wp2_with fail
      go_region
      all_goals go_wp2_with fail
      clear c0 c1 c2 f2
      go_loopw [7] (fun i wr => ∃ (k : Nat) (room1 : List Value), i = .int .i64 k ∧ k ≤ high ∧ to ≤ k ∧ RingAt 105 9 wr p g room1 low to ∧ room1.length = room.length ∧ (∀ i, low ≤ i → i < to → room1[i % room.length]? = room[i % room.length]?) ∧ Only (fun k => k = p ∨ k = g) w wr) (fun i _ => (high - intOf i).toNat)
      case atStart => exact ⟨to, room, rfl, q3, Nat.le_refl _, hh.out.1, rfl, fun _ _ _ => rfl, hh.out.2⟩
      case round =>
        obtain ⟨k, room1, rfl, hk, htk, hR, hlen, hsame, honly⟩ := hrel
        have hRx := hR
        obtain ⟨kp, kg, kne, kpos, kle, klh, khl⟩ := hRx
        have d0 := kp.cell 0
        have d2 := kp.cell 2
        simp at d0 d2
        by_cases hlt : k < high
        · have dlt : k % room1.length < room1.length := Nat.mod_lt _ kpos
          have dg := kg.cell (k % room1.length)
          have df := kg.free (k % room1.length)
          rw [List.getElem?_eq_getElem dlt] at dg
          replace hlen := Lib.hid hlen
          replace hR := Lib.hid hR
          go_wp2_with fail
          go_region
          all_goals go_wp2_with fail
          all_goals go_roundw
          case measure => simp [intOf]; omega
          case rel =>
            refine ⟨k + 1, room1.set (k % room1.length) (.string ⟨#[]⟩), by go_num, by omega, by omega, ⟨?_, ?_, kne, by simpa using kpos, by simpa using kle, klh, by first | (simp; done) | simpa using khl⟩, by simpa using hlen.out, ?_, (honly.setCell (p := ⟨g, k % room1.length, none⟩) (.inr rfl) _).drew⟩
            · have h1 := kp.set_other (p := ⟨g, k % room1.length, none⟩) (Ne.symm kne) (.string ⟨#[]⟩)
              refine Blk.drew ?_
              simpa using h1
            · exact (kg.set (k % room1.length) (.string ⟨#[]⟩)).drew
            · intro i h1 h2
              rw [List.getElem?_set_ne (by rw [hlen.out]; exact (mod_ne (a := i) (b := k) (by omega) (by omega)).symm)]
              exact hsame i h1 h2
        · have e : k = high := by omega
          have fin := Lib.hid (done.out wr room1 hR hlen hsame honly q4 q3)
          go_wp2_with fail
          all_goals go_ret
          all_goals exact fin.out
    · go_enter Try.func59, Try.ntmps59
      go_wp2_with fail
      go_region
      all_goals go_wp2_with fail
      clear c0 c1 c2 f2
      go_loopw [7] (fun i wr => ∃ (k : Nat) (room1 : List Value), i = .int .i64 k ∧ k ≤ high ∧ to ≤ k ∧ RingAt 105 9 wr p g room1 to to ∧ room1.length = room.length ∧ (∀ i, to ≤ i → i < to → room1[i % room.length]? = room[i % room.length]?) ∧ Only (fun k => k = p ∨ k = g) w wr) (fun i _ => (high - intOf i).toNat)
      case atStart => exact ⟨to, room, rfl, q3, Nat.le_refl _, hh.out.1, rfl, fun _ _ _ => rfl, hh.out.2⟩
      case round =>
        obtain ⟨k, room1, rfl, hk, htk, hR, hlen, hsame, honly⟩ := hrel
        have hRx := hR
        obtain ⟨kp, kg, kne, kpos, kle, klh, khl⟩ := hRx
        have d0 := kp.cell 0
        have d2 := kp.cell 2
        simp at d0 d2
        by_cases hlt : k < high
        · have dlt : k % room1.length < room1.length := Nat.mod_lt _ kpos
          have dg := kg.cell (k % room1.length)
          have df := kg.free (k % room1.length)
          rw [List.getElem?_eq_getElem dlt] at dg
          replace hlen := Lib.hid hlen
          replace hR := Lib.hid hR
          go_wp2_with fail
          go_region
          all_goals go_wp2_with fail
          all_goals go_roundw
          case measure => simp [intOf]; omega
          case rel =>
            refine ⟨k + 1, room1.set (k % room1.length) (.string ⟨#[]⟩), by go_num, by omega, by omega, ⟨?_, ?_, kne, by simpa using kpos, by simpa using kle, klh, by first | (simp; done) | simpa using khl⟩, by simpa using hlen.out, ?_, (honly.setCell (p := ⟨g, k % room1.length, none⟩) (.inr rfl) _).drew⟩
            · have h1 := kp.set_other (p := ⟨g, k % room1.length, none⟩) (Ne.symm kne) (.string ⟨#[]⟩)
              refine Blk.drew ?_
              simpa using h1
            · exact (kg.set (k % room1.length) (.string ⟨#[]⟩)).drew
            · intro i h1 h2
              rw [List.getElem?_set_ne (by rw [hlen.out]; exact (mod_ne (a := i) (b := k) (by omega) (by omega)).symm)]
              exact hsame i h1 h2
        · have e : k = high := by omega
          have fin := Lib.hid (done.out wr room1 hR hlen hsame honly q4 q3)
          go_wp2_with fail
          all_goals go_ret
          all_goals exact fin.out
  · have q3 : to ≤ to := Nat.le_refl _
    have q4 := hlh
    have hh := H.out q3 q4
    clear hto main
    replace hh := Lib.hid hh
    go_enter Try.func59, Try.ntmps59
    go_wp2_with fail
    go_region
    all_goals go_wp2_with fail
    clear c0 c1 c2 f2
    go_loopw [7] (fun i wr => ∃ (k : Nat) (room1 : List Value), i = .int .i64 k ∧ k ≤ to ∧ to ≤ k ∧ RingAt 105 9 wr p g room1 low to ∧ room1.length = room.length ∧ (∀ i, low ≤ i → i < to → room1[i % room.length]? = room[i % room.length]?) ∧ Only (fun k => k = p ∨ k = g) w wr) (fun i _ => (to - intOf i).toNat)
    case atStart => exact ⟨to, room, rfl, q3, Nat.le_refl _, hh.out.1, rfl, fun _ _ _ => rfl, hh.out.2⟩
    case round =>
      obtain ⟨k, room1, rfl, hk, htk, hR, hlen, hsame, honly⟩ := hrel
      have hRx := hR
      obtain ⟨kp, kg, kne, kpos, kle, klh, khl⟩ := hRx
      have d0 := kp.cell 0
      have d2 := kp.cell 2
      simp at d0 d2
      by_cases hlt : k < to
      · omega
      · have e : k = to := by omega
        go_wp2_with fail
        all_goals go_ret
        all_goals exact ⟨room1, ret_int (by first | omega | (simp; done)), hlen, hsame, hR, honly⟩

/-! ### rings of int -/
set_option maxRecDepth 100000 in
theorem push_int (x : Int) (w : World) (p g : Nat) (room : List Value) (low high : Nat) (h : RingAt 107 3 w p g room low high) (hbig : high < 1099511627776) :
    Calls Try.prog 28 #[.pointer (some ⟨p, 0, none⟩), .int .i64 x] w fun e w' => e = .returned (.int .i64 high) ∧
      RingAt 107 3 w' p g (room.set (high % room.length) (.int .i64 x)) (max low (high + 1 - room.length)) (high + 1) ∧ Only (fun k => k = p ∨ k = g) w w' := by
  have hst := fun L hL => h.stored (.int .i64 x) L hL
  obtain ⟨hp, hg, hne, hpos, hle, hlh, hhl⟩ := h
  have c0 := hp.cell 0
  have c1 := hp.cell 1
  have c2 := hp.cell 2
  simp at c0 c1 c2
  have hlt : high % room.length < room.length := Nat.mod_lt _ hpos
  have cg := hg.cell (high % room.length)
  have fp := hp.free
  have fg := hg.free
  have f1 := fp 1
  have f2 := fp 2
  have f3 := fg (high % room.length)
  clear fp fg
  rw [List.getElem?_eq_getElem hlt] at cg
  have H := Lib.hid hst
  clear hst
  go_enter Try.func28, Try.ntmps28
  go_wp2_with fail
  go_region
  go_wp2_with fail
  go_region
  all_goals go_wp2_with fail
  all_goals go_ret
  all_goals exact ⟨rfl, H.out _ (by omega)⟩
theorem low_int (w : World) (p g : Nat) (room : List Value) (low high : Nat) (h : RingAt 107 3 w p g room low high) :
    Calls Try.prog 40 #[.pointer (some ⟨p, 0, none⟩)] w fun e w' => e = .returned (.int .i64 low) ∧ w = w' := by
  obtain ⟨hp, hg, hne, hpos, hle, hlh, hhl⟩ := h
  have c0 := hp.cell 0
  have c1 := hp.cell 1
  have c2 := hp.cell 2
  simp at c0 c1 c2
  go_enter Try.func40, Try.ntmps40
  go_wp2_with fail
  go_ret
  exact ⟨rfl, rfl⟩
theorem high_int (w : World) (p g : Nat) (room : List Value) (low high : Nat) (h : RingAt 107 3 w p g room low high) :
    Calls Try.prog 41 #[.pointer (some ⟨p, 0, none⟩)] w fun e w' => e = .returned (.int .i64 high) ∧ w = w' := by
  obtain ⟨hp, hg, hne, hpos, hle, hlh, hhl⟩ := h
  have c0 := hp.cell 0
  have c1 := hp.cell 1
  have c2 := hp.cell 2
  simp at c0 c1 c2
  go_enter Try.func41, Try.ntmps41
  go_wp2_with fail
  go_ret
  exact ⟨rfl, rfl⟩
theorem at_out_int (n : Int) (w : World) (p g : Nat) (room : List Value) (low high : Nat) (h : RingAt 107 3 w p g room low high) (hn : n < low ∨ (high : Int) ≤ n) :
    Calls Try.prog 39 #[.pointer (some ⟨p, 0, none⟩), .int .i64 n] w fun e w' => e = .returned (.tuple #[.int .i64 0, .bool false]) ∧ w = w' := by
  obtain ⟨hp, hg, hne, hpos, hle, hlh, hhl⟩ := h
  have c0 := hp.cell 0
  have c1 := hp.cell 1
  have c2 := hp.cell 2
  simp at c0 c1 c2
  by_cases h0 : n < low
  · go_enter Try.func39, Try.ntmps39
    go_wp2_with fail
    go_ret2
    exact ⟨rfl, rfl⟩
  · have h1 : (high : Int) ≤ n := by omega
    go_enter Try.func39, Try.ntmps39
    go_wp2_with fail
    go_ret2
    exact ⟨rfl, rfl⟩
set_option maxRecDepth 100000 in
theorem at_in_int (n : Nat) (V : Value) (w : World) (p g : Nat) (room : List Value) (low high : Nat) (h : RingAt 107 3 w p g room low high) (hl : low ≤ n) (hh : n < high) (hV : room[n % room.length]? = some V) :
    Calls Try.prog 39 #[.pointer (some ⟨p, 0, none⟩), .int .i64 n] w fun e w' => e = .returned (.tuple #[V, .bool true]) ∧ ∃ m, w' = w.drewN m := by
  obtain ⟨hp, hg, hne, hpos, hle, hlh, hhl⟩ := h
  have c0 := hp.cell 0
  have c1 := hp.cell 1
  have c2 := hp.cell 2
  simp at c0 c1 c2
  have hl' : (low : Int) ≤ (n : Int) := by omega
  have hh' : (n : Int) < (high : Int) := by omega
  have cg := (hg.cell (n % room.length)).trans hV
  have hlt : n % room.length < room.length := Nat.mod_lt _ hpos
  have hV := Lib.hid hV
  clear hg
  go_enter Try.func39, Try.ntmps39
  go_wp2_with (go_quiet (fail))
  all_goals go_ret2
  all_goals exact ⟨rfl, _, rfl⟩
set_option maxRecDepth 100000 in
theorem new_int (c : Nat) (w : World) (h0 : 1 ≤ c) (h1 : c ≤ 1000) :
    Calls Try.prog 27 #[.int .i64 c] w fun e w' => ∃ p g, e = .returned (.tuple #[.pointer (some ⟨p, 0, none⟩), .int .i64 0]) ∧ w.heap.size ≤ p ∧ w.heap.size ≤ g ∧ RingAt 107 3 w' p g (List.replicate c (.int .i64 0)) 0 0 ∧ Below w.heap.size w w' := by
  have hmk := make_full (P := Try.prog) (t := 61) (e := 3) (z := .int .i64 0) (bytes := 8) Try.underlying61 (by kernel_rfl) rfl c (by omega) (by omega)
  have g0 : (1 : Int) ≤ c := by omega
  have g1 : (c : Int) ≤ 1000 := by omega
  go_enter Try.func27, Try.ntmps27
  go_wp2_with fail
  go_ret2
  have hb : Below w.heap.size w (w.alloc (.cells (List.replicate c (.int .i64 0)).toArray 3)) := bl_alloc (Below.refl _ _) _
  refine ⟨w.heap.size + 1, w.heap.size, rfl, by omega, by omega, ⟨?_, ?_, by omega, by simp; omega, by simp; omega, by omega, by simp⟩, bl_alloc hb _⟩
  · have h := Blk.new (w.alloc (.cells (List.replicate c (.int .i64 0)).toArray 3)) 107 [.slice (some ⟨w.heap.size, 0, none⟩) c c, .int .i64 0, .int .i64 0]
    simpa using h
  · exact (Blk.new w 3 (List.replicate c (.int .i64 0))).alloc _
set_option maxRecDepth 100000 in
theorem cut_int (n : Int) (w : World) (p g : Nat) (room : List Value) (low high to : Nat) (h : RingAt 107 3 w p g room low high) (hbig : high < 1099511627776) (hto : (to : Int) = min (max n low) high) :
    Calls Try.prog 30 #[.pointer (some ⟨p, 0, none⟩), .int .i64 n] w fun e w' => ∃ room' : List Value, e = .returned (.int .i64 ((high - to : Nat) : Int)) ∧ room'.length = room.length ∧ (∀ i, low ≤ i → i < to → room'[i % room.length]? = room[i % room.length]?) ∧
      RingAt 107 3 w' p g room' low to ∧ Only (fun k => k = p ∨ k = g) w w' := by
  have hst := fun (hx : to ≤ high) (hy : low ≤ to) => h.cutTo hx hy
  obtain ⟨hp, hg, hne, hpos, hle, hlh, hhl⟩ := h
  have c0 := hp.cell 0
  have c1 := hp.cell 1
  have c2 := hp.cell 2
  simp at c0 c1 c2
  have fp := hp.free
  have f2 := fp 2
  clear fp
  have H := Lib.hid hst
  clear hst
  have done : ∀ (w1 : World) (room1 : List Value), RingAt 107 3 w1 p g room1 low to → room1.length = room.length → (∀ i, low ≤ i → i < to → room1[i % room.length]? = room[i % room.length]?) → Only (fun k => k = p ∨ k = g) w w1 → low ≤ to → to ≤ high →
      ∃ room' : List Value, Ending.returned (.int .i64 ((high : Int) - (to : Int))) = .returned (.int .i64 ((high - to : Nat) : Int)) ∧ room'.length = room.length ∧ (∀ i, low ≤ i → i < to → room'[i % room.length]? = room[i % room.length]?) ∧
      RingAt 107 3 w1 p g room' low to ∧ Only (fun k => k = p ∨ k = g) w w1 := fun w1 room1 a b c d e f =>
    ⟨room1, ret_int (by omega), b, c, a, d⟩
  have done := Lib.hid done
  have main : ∀ m : Int, m = n → ((m = (to : Int) ∨ m < low ∧ to = low) ∧ to ≤ high ∧ low ≤ to) ∨ ((high : Int) < m ∧ to = high) := by omega
  rcases main n rfl with ⟨hn, q3, q4⟩ | ⟨q1, rfl⟩
  · have hh := H.out q3 q4
    clear hto main
    replace hh := Lib.hid hh
    rcases hn with rfl | ⟨q1, rfl⟩
    · go_enter Try.func30, Try.ntmps30
      go_wp2_with fail
      go_region
      all_goals go_wp2_with fail
      clear c0 c1 c2 f2
      go_loopw [7] (fun i wr => ∃ (k : Nat) (room1 : List Value), i = .int .i64 k ∧ k ≤ high ∧ to ≤ k ∧ RingAt 107 3 wr p g room1 low to ∧ room1.length = room.length ∧ (∀ i, low ≤ i → i < to → room1[i % room.length]? = room[i % room.length]?) ∧ Only (fun k => k = p ∨ k = g) w wr) (fun i _ => (high - intOf i).toNat)
      case atStart => exact ⟨to, room, rfl, q3, Nat.le_refl _, hh.out.1, rfl, fun _ _ _ => rfl, hh.out.2⟩
      case round =>
        obtain ⟨k, room1, rfl, hk, htk, hR, hlen, hsame, honly⟩ := hrel
        have hRx := hR
        obtain ⟨kp, kg, kne, kpos, kle, klh, khl⟩ := hRx
        have d0 := kp.cell 0
        have d2 := kp.cell 2
        simp at d0 d2
        by_cases hlt : k < high
        · have dlt : k % room1.length < room1.length := Nat.mod_lt _ kpos
          have dg := kg.cell (k % room1.length)
          have df := kg.free (k % room1.length)
          rw [List.getElem?_eq_getElem dlt] at dg
          replace hlen := Lib.hid hlen
          replace hR := Lib.hid hR
          go_wp2_with fail
          go_region
          all_goals go_wp2_with fail
          all_goals go_roundw
          case measure => simp [intOf]; omega
          case rel =>
            refine ⟨k + 1, room1.set (k % room1.length) (.int .i64 0), by go_num, by omega, by omega, ⟨?_, ?_, kne, by simpa using kpos, by simpa using kle, klh, by first | (simp; done) | simpa using khl⟩, by simpa using hlen.out, ?_, (honly.setCell (p := ⟨g, k % room1.length, none⟩) (.inr rfl) _).drew⟩
            · have h1 := kp.set_other (p := ⟨g, k % room1.length, none⟩) (Ne.symm kne) (.int .i64 0)
              refine Blk.drew ?_
              simpa using h1
            · exact (kg.set (k % room1.length) (.int .i64 0)).drew
            · intro i h1 h2
              rw [List.getElem?_set_ne (by rw [hlen.out]; exact (mod_ne (a := i) (b := k) (by omega) (by omega)).symm)]
              exact hsame i h1 h2
        · have e : k = high := by omega
          have fin := Lib.hid (done.out wr room1 hR hlen hsame honly q4 q3)
          go_wp2_with fail
          all_goals go_ret
          all_goals exact fin.out
    · go_enter Try.func30, Try.ntmps30
      go_wp2_with fail
      go_region
      all_goals go_wp2_with fail
      clear c0 c1 c2 f2
      go_loopw [7] (fun i wr => ∃ (k : Nat) (room1 : List Value), i = .int .i64 k ∧ k ≤ high ∧ to ≤ k ∧ RingAt 107 3 wr p g room1 to to ∧ room1.length = room.length ∧ (∀ i, to ≤ i → i < to → room1[i % room.length]? = room[i % room.length]?) ∧ Only (fun k => k = p ∨ k = g) w wr) (fun i _ => (high - intOf i).toNat)
      case atStart => exact ⟨to, room, rfl, q3, Nat.le_refl _, hh.out.1, rfl, fun _ _ _ => rfl, hh.out.2⟩
      case round =>
        obtain ⟨k, room1, rfl, hk, htk, hR, hlen, hsame, honly⟩ := hrel
        have hRx := hR
        obtain ⟨kp, kg, kne, kpos, kle, klh, khl⟩ := hRx
        have d0 := kp.cell 0
        have d2 := kp.cell 2
        simp at d0 d2
        by_cases hlt : k < high
        · have dlt : k % room1.length < room1.length := Nat.mod_lt _ kpos
          have dg := kg.cell (k % room1.length)
          have df := kg.free (k % room1.length)
          rw [List.getElem?_eq_getElem dlt] at dg
          replace hlen := Lib.hid hlen
          replace hR := Lib.hid hR
          go_wp2_with fail
          go_region
          all_goals go_wp2_with fail
          all_goals go_roundw
          case measure => simp [intOf]; omega
          case rel =>
            refine ⟨k + 1, room1.set (k % room1.length) (.int .i64 0), by go_num, by omega, by omega, ⟨?_, ?_, kne, by simpa using kpos, by simpa using kle, klh, by first | (simp; done) | simpa using khl⟩, by simpa using hlen.out, ?_, (honly.setCell (p := ⟨g, k % room1.length, none⟩) (.inr rfl) _).drew⟩
            · have h1 := kp.set_other (p := ⟨g, k % room1.length, none⟩) (Ne.symm kne) (.int .i64 0)
              refine Blk.drew ?_
              simpa using h1
            · exact (kg.set (k % room1.length) (.int .i64 0)).drew
            · intro i h1 h2
              rw [List.getElem?_set_ne (by rw [hlen.out]; exact (mod_ne (a := i) (b := k) (by omega) (by omega)).symm)]
              exact hsame i h1 h2
        · have e : k = high := by omega
          have fin := Lib.hid (done.out wr room1 hR hlen hsame honly q4 q3)
          go_wp2_with fail
          all_goals go_ret
          all_goals exact fin.out
  · have q3 : to ≤ to := Nat.le_refl _
    have q4 := hlh
    have hh := H.out q3 q4
    clear hto main
    replace hh := Lib.hid hh
    go_enter Try.func30, Try.ntmps30
    go_wp2_with fail
    go_region
    all_goals go_wp2_with fail
    clear c0 c1 c2 f2
    go_loopw [7] (fun i wr => ∃ (k : Nat) (room1 : List Value), i = .int .i64 k ∧ k ≤ to ∧ to ≤ k ∧ RingAt 107 3 wr p g room1 low to ∧ room1.length = room.length ∧ (∀ i, low ≤ i → i < to → room1[i % room.length]? = room[i % room.length]?) ∧ Only (fun k => k = p ∨ k = g) w wr) (fun i _ => (to - intOf i).toNat)
    case atStart => exact ⟨to, room, rfl, q3, Nat.le_refl _, hh.out.1, rfl, fun _ _ _ => rfl, hh.out.2⟩
    case round =>
      obtain ⟨k, room1, rfl, hk, htk, hR, hlen, hsame, honly⟩ := hrel
      have hRx := hR
      obtain ⟨kp, kg, kne, kpos, kle, klh, khl⟩ := hRx
      have d0 := kp.cell 0
      have d2 := kp.cell 2
      simp at d0 d2
      by_cases hlt : k < to
      · omega
      · have e : k = to := by omega
        go_wp2_with fail
        all_goals go_ret
        all_goals exact ⟨room1, ret_int (by first | omega | (simp; done)), hlen, hsame, hR, honly⟩

/-! ### rings of []byte -/
set_option maxRecDepth 100000 in
theorem push_row (xa : Option Addr) (xl xc : Nat) (w : World) (p g : Nat) (room : List Value) (low high : Nat) (h : RingAt 109 73 w p g room low high) (hbig : high < 1099511627776) :
    Calls Try.prog 34 #[.pointer (some ⟨p, 0, none⟩), .slice xa xl xc] w fun e w' => e = .returned (.int .i64 high) ∧
      RingAt 109 73 w' p g (room.set (high % room.length) (.slice xa xl xc)) (max low (high + 1 - room.length)) (high + 1) ∧ Only (fun k => k = p ∨ k = g) w w' := by
  have hst := fun L hL => h.stored (.slice xa xl xc) L hL
  obtain ⟨hp, hg, hne, hpos, hle, hlh, hhl⟩ := h
  have c0 := hp.cell 0
  have c1 := hp.cell 1
  have c2 := hp.cell 2
  simp at c0 c1 c2
  have hlt : high % room.length < room.length := Nat.mod_lt _ hpos
  have cg := hg.cell (high % room.length)
  have fp := hp.free
  have fg := hg.free
  have f1 := fp 1
  have f2 := fp 2
  have f3 := fg (high % room.length)
  clear fp fg
  rw [List.getElem?_eq_getElem hlt] at cg
  have H := Lib.hid hst
  clear hst
  go_enter Try.func34, Try.ntmps34
  go_wp2_with fail
  go_region
  go_wp2_with fail
  go_region
  all_goals go_wp2_with fail
  all_goals go_ret
  all_goals exact ⟨rfl, H.out _ (by omega)⟩
theorem low_row (w : World) (p g : Nat) (room : List Value) (low high : Nat) (h : RingAt 109 73 w p g room low high) :
    Calls Try.prog 62 #[.pointer (some ⟨p, 0, none⟩)] w fun e w' => e = .returned (.int .i64 low) ∧ w = w' := by
  obtain ⟨hp, hg, hne, hpos, hle, hlh, hhl⟩ := h
  have c0 := hp.cell 0
  have c1 := hp.cell 1
  have c2 := hp.cell 2
  simp at c0 c1 c2
  go_enter Try.func62, Try.ntmps62
  go_wp2_with fail
  go_ret
  exact ⟨rfl, rfl⟩
theorem high_row (w : World) (p g : Nat) (room : List Value) (low high : Nat) (h : RingAt 109 73 w p g room low high) :
    Calls Try.prog 63 #[.pointer (some ⟨p, 0, none⟩)] w fun e w' => e = .returned (.int .i64 high) ∧ w = w' := by
  obtain ⟨hp, hg, hne, hpos, hle, hlh, hhl⟩ := h
  have c0 := hp.cell 0
  have c1 := hp.cell 1
  have c2 := hp.cell 2
  simp at c0 c1 c2
  go_enter Try.func63, Try.ntmps63
  go_wp2_with fail
  go_ret
  exact ⟨rfl, rfl⟩
theorem at_out_row (n : Int) (w : World) (p g : Nat) (room : List Value) (low high : Nat) (h : RingAt 109 73 w p g room low high) (hn : n < low ∨ (high : Int) ≤ n) :
    Calls Try.prog 64 #[.pointer (some ⟨p, 0, none⟩), .int .i64 n] w fun e w' => e = .returned (.tuple #[.slice none 0 0, .bool false]) ∧ w = w' := by
  obtain ⟨hp, hg, hne, hpos, hle, hlh, hhl⟩ := h
  have c0 := hp.cell 0
  have c1 := hp.cell 1
  have c2 := hp.cell 2
  simp at c0 c1 c2
  by_cases h0 : n < low
  · go_enter Try.func64, Try.ntmps64
    go_wp2_with fail
    go_ret2
    exact ⟨rfl, rfl⟩
  · have h1 : (high : Int) ≤ n := by omega
    go_enter Try.func64, Try.ntmps64
    go_wp2_with fail
    go_ret2
    exact ⟨rfl, rfl⟩
set_option maxRecDepth 100000 in
theorem at_in_row (n : Nat) (V : Value) (w : World) (p g : Nat) (room : List Value) (low high : Nat) (h : RingAt 109 73 w p g room low high) (hl : low ≤ n) (hh : n < high) (hV : room[n % room.length]? = some V) :
    Calls Try.prog 64 #[.pointer (some ⟨p, 0, none⟩), .int .i64 n] w fun e w' => e = .returned (.tuple #[V, .bool true]) ∧ ∃ m, w' = w.drewN m := by
  obtain ⟨hp, hg, hne, hpos, hle, hlh, hhl⟩ := h
  have c0 := hp.cell 0
  have c1 := hp.cell 1
  have c2 := hp.cell 2
  simp at c0 c1 c2
  have hl' : (low : Int) ≤ (n : Int) := by omega
  have hh' : (n : Int) < (high : Int) := by omega
  have cg := (hg.cell (n % room.length)).trans hV
  have hlt : n % room.length < room.length := Nat.mod_lt _ hpos
  have hV := Lib.hid hV
  clear hg
  go_enter Try.func64, Try.ntmps64
  go_wp2_with (go_quiet (fail))
  all_goals go_ret2
  all_goals exact ⟨rfl, _, rfl⟩
set_option maxRecDepth 100000 in
theorem new_row (c : Nat) (w : World) (h0 : 1 ≤ c) (h1 : c ≤ 1000) :
    Calls Try.prog 33 #[.int .i64 c] w fun e w' => ∃ p g, e = .returned (.tuple #[.pointer (some ⟨p, 0, none⟩), .int .i64 0]) ∧ w.heap.size ≤ p ∧ w.heap.size ≤ g ∧ RingAt 109 73 w' p g (List.replicate c (.slice none 0 0)) 0 0 ∧ Below w.heap.size w w' := by
  have hmk := make_full (P := Try.prog) (t := 69) (e := 73) (z := .slice none 0 0) (bytes := 24) Try.underlying69 (by kernel_rfl) rfl c (by omega) (by omega)
  have g0 : (1 : Int) ≤ c := by omega
  have g1 : (c : Int) ≤ 1000 := by omega
  go_enter Try.func33, Try.ntmps33
  go_wp2_with fail
  go_ret2
  have hb : Below w.heap.size w (w.alloc (.cells (List.replicate c (.slice none 0 0)).toArray 73)) := bl_alloc (Below.refl _ _) _
  refine ⟨w.heap.size + 1, w.heap.size, rfl, by omega, by omega, ⟨?_, ?_, by omega, by simp; omega, by simp; omega, by omega, by simp⟩, bl_alloc hb _⟩
  · have h := Blk.new (w.alloc (.cells (List.replicate c (.slice none 0 0)).toArray 73)) 109 [.slice (some ⟨w.heap.size, 0, none⟩) c c, .int .i64 0, .int .i64 0]
    simpa using h
  · exact (Blk.new w 73 (List.replicate c (.slice none 0 0))).alloc _
set_option maxRecDepth 100000 in
theorem cut_row (n : Int) (w : World) (p g : Nat) (room : List Value) (low high to : Nat) (h : RingAt 109 73 w p g room low high) (hbig : high < 1099511627776) (hto : (to : Int) = min (max n low) high) :
    Calls Try.prog 38 #[.pointer (some ⟨p, 0, none⟩), .int .i64 n] w fun e w' => ∃ room' : List Value, e = .returned (.int .i64 ((high - to : Nat) : Int)) ∧ room'.length = room.length ∧ (∀ i, low ≤ i → i < to → room'[i % room.length]? = room[i % room.length]?) ∧
      RingAt 109 73 w' p g room' low to ∧ Only (fun k => k = p ∨ k = g) w w' := by
  have hst := fun (hx : to ≤ high) (hy : low ≤ to) => h.cutTo hx hy
  obtain ⟨hp, hg, hne, hpos, hle, hlh, hhl⟩ := h
  have c0 := hp.cell 0
  have c1 := hp.cell 1
  have c2 := hp.cell 2
  simp at c0 c1 c2
  have fp := hp.free
  have f2 := fp 2
  clear fp
  have H := Lib.hid hst
  clear hst
  have done : ∀ (w1 : World) (room1 : List Value), RingAt 109 73 w1 p g room1 low to → room1.length = room.length → (∀ i, low ≤ i → i < to → room1[i % room.length]? = room[i % room.length]?) → Only (fun k => k = p ∨ k = g) w w1 → low ≤ to → to ≤ high →
      ∃ room' : List Value, Ending.returned (.int .i64 ((high : Int) - (to : Int))) = .returned (.int .i64 ((high - to : Nat) : Int)) ∧ room'.length = room.length ∧ (∀ i, low ≤ i → i < to → room'[i % room.length]? = room[i % room.length]?) ∧
      RingAt 109 73 w1 p g room' low to ∧ Only (fun k => k = p ∨ k = g) w w1 := fun w1 room1 a b c d e f =>
    ⟨room1, ret_int (by omega), b, c, a, d⟩
  have done := Lib.hid done
  have main : ∀ m : Int, m = n → ((m = (to : Int) ∨ m < low ∧ to = low) ∧ to ≤ high ∧ low ≤ to) ∨ ((high : Int) < m ∧ to = high) := by omega
  rcases main n rfl with ⟨hn, q3, q4⟩ | ⟨q1, rfl⟩
  · have hh := H.out q3 q4
    clear hto main
    replace hh := Lib.hid hh
    rcases hn with rfl | ⟨q1, rfl⟩
    · go_enter Try.func38, Try.ntmps38
      go_wp2_with fail
      go_region
      all_goals go_wp2_with fail
      clear c0 c1 c2 f2
      go_loopw [7] (fun i wr => ∃ (k : Nat) (room1 : List Value), i = .int .i64 k ∧ k ≤ high ∧ to ≤ k ∧ RingAt 109 73 wr p g room1 low to ∧ room1.length = room.length ∧ (∀ i, low ≤ i → i < to → room1[i % room.length]? = room[i % room.length]?) ∧ Only (fun k => k = p ∨ k = g) w wr) (fun i _ => (high - intOf i).toNat)
      case atStart => exact ⟨to, room, rfl, q3, Nat.le_refl _, hh.out.1, rfl, fun _ _ _ => rfl, hh.out.2⟩
      case round =>
        obtain ⟨k, room1, rfl, hk, htk, hR, hlen, hsame, honly⟩ := hrel
        have hRx := hR
        obtain ⟨kp, kg, kne, kpos, kle, klh, khl⟩ := hRx
        have d0 := kp.cell 0
        have d2 := kp.cell 2
        simp at d0 d2
        by_cases hlt : k < high
        · have dlt : k % room1.length < room1.length := Nat.mod_lt _ kpos
          have dg := kg.cell (k % room1.length)
          have df := kg.free (k % room1.length)
          rw [List.getElem?_eq_getElem dlt] at dg
          replace hlen := Lib.hid hlen
          replace hR := Lib.hid hR
          go_wp2_with fail
          go_region
          all_goals go_wp2_with fail
          all_goals go_roundw
          case measure => simp [intOf]; omega
          case rel =>
            refine ⟨k + 1, room1.set (k % room1.length) (.slice none 0 0), by go_num, by omega, by omega, ⟨?_, ?_, kne, by simpa using kpos, by simpa using kle, klh, by first | (simp; done) | simpa using khl⟩, by simpa using hlen.out, ?_, (honly.setCell (p := ⟨g, k % room1.length, none⟩) (.inr rfl) _).drew⟩
            · have h1 := kp.set_other (p := ⟨g, k % room1.length, none⟩) (Ne.symm kne) (.slice none 0 0)
              refine Blk.drew ?_
              simpa using h1
            · exact (kg.set (k % room1.length) (.slice none 0 0)).drew
            · intro i h1 h2
              rw [List.getElem?_set_ne (by rw [hlen.out]; exact (mod_ne (a := i) (b := k) (by omega) (by omega)).symm)]
              exact hsame i h1 h2
        · have e : k = high := by omega
          have fin := Lib.hid (done.out wr room1 hR hlen hsame honly q4 q3)
          go_wp2_with fail
          all_goals go_ret
          all_goals exact fin.out
    · go_enter Try.func38, Try.ntmps38
      go_wp2_with fail
      go_region
      all_goals go_wp2_with fail
      clear c0 c1 c2 f2
      go_loopw [7] (fun i wr => ∃ (k : Nat) (room1 : List Value), i = .int .i64 k ∧ k ≤ high ∧ to ≤ k ∧ RingAt 109 73 wr p g room1 to to ∧ room1.length = room.length ∧ (∀ i, to ≤ i → i < to → room1[i % room.length]? = room[i % room.length]?) ∧ Only (fun k => k = p ∨ k = g) w wr) (fun i _ => (high - intOf i).toNat)
      case atStart => exact ⟨to, room, rfl, q3, Nat.le_refl _, hh.out.1, rfl, fun _ _ _ => rfl, hh.out.2⟩
      case round =>
        obtain ⟨k, room1, rfl, hk, htk, hR, hlen, hsame, honly⟩ := hrel
        have hRx := hR
        obtain ⟨kp, kg, kne, kpos, kle, klh, khl⟩ := hRx
        have d0 := kp.cell 0
        have d2 := kp.cell 2
        simp at d0 d2
        by_cases hlt : k < high
        · have dlt : k % room1.length < room1.length := Nat.mod_lt _ kpos
          have dg := kg.cell (k % room1.length)
          have df := kg.free (k % room1.length)
          rw [List.getElem?_eq_getElem dlt] at dg
          replace hlen := Lib.hid hlen
          replace hR := Lib.hid hR
          go_wp2_with fail
          go_region
          all_goals go_wp2_with fail
          all_goals go_roundw
          case measure => simp [intOf]; omega
          case rel =>
            refine ⟨k + 1, room1.set (k % room1.length) (.slice none 0 0), by go_num, by omega, by omega, ⟨?_, ?_, kne, by simpa using kpos, by simpa using kle, klh, by first | (simp; done) | simpa using khl⟩, by simpa using hlen.out, ?_, (honly.setCell (p := ⟨g, k % room1.length, none⟩) (.inr rfl) _).drew⟩
            · have h1 := kp.set_other (p := ⟨g, k % room1.length, none⟩) (Ne.symm kne) (.slice none 0 0)
              refine Blk.drew ?_
              simpa using h1
            · exact (kg.set (k % room1.length) (.slice none 0 0)).drew
            · intro i h1 h2
              rw [List.getElem?_set_ne (by rw [hlen.out]; exact (mod_ne (a := i) (b := k) (by omega) (by omega)).symm)]
              exact hsame i h1 h2
        · have e : k = high := by omega
          have fin := Lib.hid (done.out wr room1 hR hlen hsame honly q4 q3)
          go_wp2_with fail
          all_goals go_ret
          all_goals exact fin.out
  · have q3 : to ≤ to := Nat.le_refl _
    have q4 := hlh
    have hh := H.out q3 q4
    clear hto main
    replace hh := Lib.hid hh
    go_enter Try.func38, Try.ntmps38
    go_wp2_with fail
    go_region
    all_goals go_wp2_with fail
    clear c0 c1 c2 f2
    go_loopw [7] (fun i wr => ∃ (k : Nat) (room1 : List Value), i = .int .i64 k ∧ k ≤ to ∧ to ≤ k ∧ RingAt 109 73 wr p g room1 low to ∧ room1.length = room.length ∧ (∀ i, low ≤ i → i < to → room1[i % room.length]? = room[i % room.length]?) ∧ Only (fun k => k = p ∨ k = g) w wr) (fun i _ => (to - intOf i).toNat)
    case atStart => exact ⟨to, room, rfl, q3, Nat.le_refl _, hh.out.1, rfl, fun _ _ _ => rfl, hh.out.2⟩
    case round =>
      obtain ⟨k, room1, rfl, hk, htk, hR, hlen, hsame, honly⟩ := hrel
      have hRx := hR
      obtain ⟨kp, kg, kne, kpos, kle, klh, khl⟩ := hRx
      have d0 := kp.cell 0
      have d2 := kp.cell 2
      simp at d0 d2
      by_cases hlt : k < to
      · omega
      · have e : k = to := by omega
        go_wp2_with fail
        all_goals go_ret
        all_goals exact ⟨room1, ret_int (by first | omega | (simp; done)), hlen, hsame, hR, honly⟩
end Go.Proofs.Ytfbimghnimepjaa
