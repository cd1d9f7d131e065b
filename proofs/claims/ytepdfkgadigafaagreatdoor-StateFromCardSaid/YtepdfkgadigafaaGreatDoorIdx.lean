/-
  bytes.IndexAny at a set of one byte: a blank, or a quote.
  Conditions: as each theorem states them.
-/
import Derived.Test.YtepdfkgadigafaaGreatDoorFdA
import Derived.Laws.IdiomStrings
import Derived.Laws.RangeString
import Derived.Lib.OthersKept
import Derived.Deep.LoopGhost
namespace Go.Proofs.YtepdfkgadigafaaGreatDoor
open Go.RowKit Go.Sort
set_option linter.unusedVariables false
set_option linter.unusedSimpArgs false
theorem bytesOf_nats (s : List UInt8) : Lib.bytesOf (s.map fun c => (c.toNat : Int)) = s := by
  unfold Lib.bytesOf
  rw [List.map_map]
  refine (List.map_congr_left (g := id) ?_).trans (List.map_id s)
  intro c _; simp
theorem indexByte_bytes (s : List UInt8) (g c : Nat) (d : UInt8) (w : World) (hr : ByteRow w g 0 s) :
    Calls Tryz.prog 101 #[.slice (some ⟨g, 0, none⟩) s.length c, .int .u8 (d.toNat : Int)] w fun e w' => e = .returned (.int .i64 (Lib.indexByte s d)) ∧ w' = w := by
  have h := Tryz.bytes_IndexByte g 0 s.length c (s.map fun c => (c.toNat : Int)) (d.toNat : Int) w (by simp) (fun i hi => by
    rw [hr i hi]; simp [List.getD, hi])
  rw [bytesOf_nats] at h
  simpa using h

set_option maxHeartbeats 2000000 in
set_option maxRecDepth 100000 in
theorem index_rune32 (s : List UInt8) (g c : Nat) (w : World) (hr : ByteRow w g 0 s) :
    Calls Tryz.prog 78 #[.slice (some ⟨g, 0, none⟩) s.length c, .int .i32 32] w fun e w' => e = .returned (.int .i64 (Lib.indexByte s 32)) ∧ w' = w := by
  have hb := Lib.hid (indexByte_bytes s g c 32 w hr)
  go_enter Tryz.func78, Tryz.ntmps78
  go_wp2_with (go_at_call 101; refine hb.out.mono ?_; rintro e w2 ⟨rfl, rfl⟩)
  all_goals go_ret
  all_goals exact ⟨rfl, rfl⟩
set_option maxHeartbeats 4000000 in
set_option maxRecDepth 100000 in
theorem index_any32 (s : List UInt8) (g c : Nat) (w : World) (hg : g < w.heap.size) (hr : ByteRow w g 0 s) (hl : s.length ≤ 1000000) :
    Calls Tryz.prog 60 #[.slice (some ⟨g, 0, none⟩) s.length c, .string ⟨#[32]⟩] w fun e w' => e = .returned (.int .i64 (Lib.indexByte s 32)) ∧ Below w.heap.size w w' := by
  by_cases h1 : s.length = 1
  · obtain ⟨x, rfl⟩ : ∃ x, s = [x] := by
      match s, h1 with | [x], _ => exact ⟨x, rfl⟩
    have c0 : w.cell? ⟨g, 0, none⟩ = some (.int .u8 (x.toNat : Int)) := hr 0 (by simp)
    clear hr hl h1
    have hx := UInt8.toNat_lt x
    by_cases hb : 128 ≤ x.toNat
    · have hne : x ≠ 32 := fun e => by subst e; simp at hb
      have hE : Lib.indexByte [x] 32 = -1 := by simp [Lib.indexByte, hne]
      rw [hE]
      have q1 : decide ((x.toNat : Int) ≥ 128) = true := by simp; omega
      have q2 : (128 : Int) ≤ (x.toNat : Int) := by omega
      go_enter Tryz.func60, Tryz.ntmps60
      go_wp2_with fail
      go_loopg [5] 2 (fun gh v wr => ∃ pos : Nat, gh = 2 - pos ∧ pos ≤ 1 ∧ wr.heap[w.heap.size]? = some (.stringIter ⟨#[32]⟩ pos) ∧ Below w.heap.size w wr)
      case atStart => exact ⟨0, rfl, by omega, by simpa using World.iter_heap w ⟨#[32]⟩ 0, bl_alloc (Below.refl _ _) _⟩
      case round =>
        obtain ⟨pos, rfl, hp, hit, hbr⟩ := hrel
        have hsz : w.heap.size < wr.heap.size := (Array.getElem?_eq_some_iff.1 hit).1
        by_cases h0 : pos = 0
        · subst h0
          have hnx : ∀ ty, (Instr.next (.pointer (some ⟨w.heap.size, 0, none⟩)) true ty).run Tryz.prog wr = .ok (.tuple #[.bool true, .int .i64 0, .int .i32 32]) (wr.iterAt w.heap.size ⟨#[32]⟩ 1) := fun ty => Lib.run_next_ascii_at wr w.heap.size ⟨#[32]⟩ 0 ty hit (by decide) (by decide)
          have hit2 := Lib.iterAt_heap wr w.heap.size ⟨#[32]⟩ 0 1 hit
          have hbw2 := Lib.below_iterAt hbr (k := w.heap.size) (by omega) ⟨#[32]⟩ 1
          go_wp2_with fail
          all_goals go_roundg 1
          case measure => omega
          case rel => exact ⟨1, rfl, by omega, hit2, hbw2⟩
        · obtain rfl : pos = 1 := by omega
          have hnx : ∀ ty, (Instr.next (.pointer (some ⟨w.heap.size, 0, none⟩)) true ty).run Tryz.prog wr = .ok (.tuple #[.bool false]) wr := fun ty => Lib.run_next_end_at wr w.heap.size ⟨#[32]⟩ 1 ty hit (by decide)
          go_wp2_with fail
          all_goals go_ret
          all_goals exact ⟨rfl, hbr⟩
    · have q2 : ¬ (128 : Int) ≤ (x.toNat : Int) := by omega
      have q1 : decide ((x.toNat : Int) ≥ 128) = false := by simp; omega
      have hci : ((x.toNat : Int)).toNat.toUInt8 = x := by simp
      by_cases hxd : x = 32
      · subst hxd
        have hE : Lib.indexByte (⟨#[32]⟩ : ByteArray).data.toList (Int.toNat 32).toUInt8 = 0 := rfl
        show Calls _ _ _ _ fun e w' => e = .returned (.int .i64 0) ∧ _
        go_enter Tryz.func60, Tryz.ntmps60
        go_wp2_with fail
        rw [run_callFunc_extern Tryz.func77 (by kernel_rfl) (by kernel_rfl) (by kernel_rfl) (e := Extern.BytealgIndexByte.indexByte) (by kernel_rfl), Lib.run_indexByteString, hE]
        simp only [Result.andThen]
        rw [Oper.upon_value]
        go_wp2_with fail
        all_goals go_ret
        all_goals exact ⟨rfl, Below.refl _ _⟩
      · have hE : Lib.indexByte (⟨#[32]⟩ : ByteArray).data.toList ((x.toNat : Int)).toNat.toUInt8 = -1 := by rw [hci]; simp [Lib.indexByte, Ne.symm hxd]
        have hE2 : Lib.indexByte [x] 32 = -1 := by simp [Lib.indexByte, hxd]
        rw [hE2]
        go_enter Tryz.func60, Tryz.ntmps60
        go_wp2_with fail
        rw [run_callFunc_extern Tryz.func77 (by kernel_rfl) (by kernel_rfl) (by kernel_rfl) (e := Extern.BytealgIndexByte.indexByte) (by kernel_rfl), Lib.run_indexByteString, hE]
        simp only [Result.andThen]
        rw [Oper.upon_value]
        go_wp2_with fail
        all_goals go_ret
        all_goals exact ⟨rfl, Below.refl _ _⟩
  · have q1 : ((s.length : Int) == 1) = false := by simp; omega
    have qx : ∀ h, ((⟨#[32]⟩ : ByteArray)[0]'h) = 32 := fun _ => rfl
    have qw : wrap32 ((((32 : UInt8).toNat : Nat)) : Int) = 32 := by simp [wrap32]
    have q2 : ¬ (s.length : Int) = 1 := by omega
    have hb := Lib.hid (index_rune32 s g c w hr)
    go_enter Tryz.func60, Tryz.ntmps60
    go_wp2_with (go_at_call 78; (with_reducible refine hb.out.mono ?_); rintro e w2 ⟨rfl, rfl⟩)
    all_goals go_ret
    all_goals exact ⟨rfl, Below.refl _ _⟩

set_option maxHeartbeats 2000000 in
set_option maxRecDepth 100000 in
theorem index_rune34 (s : List UInt8) (g c : Nat) (w : World) (hr : ByteRow w g 0 s) :
    Calls Tryz.prog 78 #[.slice (some ⟨g, 0, none⟩) s.length c, .int .i32 34] w fun e w' => e = .returned (.int .i64 (Lib.indexByte s 34)) ∧ w' = w := by
  have hb := Lib.hid (indexByte_bytes s g c 34 w hr)
  go_enter Tryz.func78, Tryz.ntmps78
  go_wp2_with (go_at_call 101; refine hb.out.mono ?_; rintro e w2 ⟨rfl, rfl⟩)
  all_goals go_ret
  all_goals exact ⟨rfl, rfl⟩
set_option maxHeartbeats 4000000 in
set_option maxRecDepth 100000 in
theorem index_any34 (s : List UInt8) (g c : Nat) (w : World) (hg : g < w.heap.size) (hr : ByteRow w g 0 s) (hl : s.length ≤ 1000000) :
    Calls Tryz.prog 60 #[.slice (some ⟨g, 0, none⟩) s.length c, .string ⟨#[34]⟩] w fun e w' => e = .returned (.int .i64 (Lib.indexByte s 34)) ∧ Below w.heap.size w w' := by
  by_cases h1 : s.length = 1
  · obtain ⟨x, rfl⟩ : ∃ x, s = [x] := by
      match s, h1 with | [x], _ => exact ⟨x, rfl⟩
    have c0 : w.cell? ⟨g, 0, none⟩ = some (.int .u8 (x.toNat : Int)) := hr 0 (by simp)
    clear hr hl h1
    have hx := UInt8.toNat_lt x
    by_cases hb : 128 ≤ x.toNat
    · have hne : x ≠ 34 := fun e => by subst e; simp at hb
      have hE : Lib.indexByte [x] 34 = -1 := by simp [Lib.indexByte, hne]
      rw [hE]
      have q1 : decide ((x.toNat : Int) ≥ 128) = true := by simp; omega
      have q2 : (128 : Int) ≤ (x.toNat : Int) := by omega
      go_enter Tryz.func60, Tryz.ntmps60
      go_wp2_with fail
      go_loopg [5] 2 (fun gh v wr => ∃ pos : Nat, gh = 2 - pos ∧ pos ≤ 1 ∧ wr.heap[w.heap.size]? = some (.stringIter ⟨#[34]⟩ pos) ∧ Below w.heap.size w wr)
      case atStart => exact ⟨0, rfl, by omega, by simpa using World.iter_heap w ⟨#[34]⟩ 0, bl_alloc (Below.refl _ _) _⟩
      case round =>
        obtain ⟨pos, rfl, hp, hit, hbr⟩ := hrel
        have hsz : w.heap.size < wr.heap.size := (Array.getElem?_eq_some_iff.1 hit).1
        by_cases h0 : pos = 0
        · subst h0
          have hnx : ∀ ty, (Instr.next (.pointer (some ⟨w.heap.size, 0, none⟩)) true ty).run Tryz.prog wr = .ok (.tuple #[.bool true, .int .i64 0, .int .i32 34]) (wr.iterAt w.heap.size ⟨#[34]⟩ 1) := fun ty => Lib.run_next_ascii_at wr w.heap.size ⟨#[34]⟩ 0 ty hit (by decide) (by decide)
          have hit2 := Lib.iterAt_heap wr w.heap.size ⟨#[34]⟩ 0 1 hit
          have hbw2 := Lib.below_iterAt hbr (k := w.heap.size) (by omega) ⟨#[34]⟩ 1
          go_wp2_with fail
          all_goals go_roundg 1
          case measure => omega
          case rel => exact ⟨1, rfl, by omega, hit2, hbw2⟩
        · obtain rfl : pos = 1 := by omega
          have hnx : ∀ ty, (Instr.next (.pointer (some ⟨w.heap.size, 0, none⟩)) true ty).run Tryz.prog wr = .ok (.tuple #[.bool false]) wr := fun ty => Lib.run_next_end_at wr w.heap.size ⟨#[34]⟩ 1 ty hit (by decide)
          go_wp2_with fail
          all_goals go_ret
          all_goals exact ⟨rfl, hbr⟩
    · have q2 : ¬ (128 : Int) ≤ (x.toNat : Int) := by omega
      have q1 : decide ((x.toNat : Int) ≥ 128) = false := by simp; omega
      have hci : ((x.toNat : Int)).toNat.toUInt8 = x := by simp
      by_cases hxd : x = 34
      · subst hxd
        have hE : Lib.indexByte (⟨#[34]⟩ : ByteArray).data.toList (Int.toNat 34).toUInt8 = 0 := rfl
        show Calls _ _ _ _ fun e w' => e = .returned (.int .i64 0) ∧ _
        go_enter Tryz.func60, Tryz.ntmps60
        go_wp2_with fail
        rw [run_callFunc_extern Tryz.func77 (by kernel_rfl) (by kernel_rfl) (by kernel_rfl) (e := Extern.BytealgIndexByte.indexByte) (by kernel_rfl), Lib.run_indexByteString, hE]
        simp only [Result.andThen]
        rw [Oper.upon_value]
        go_wp2_with fail
        all_goals go_ret
        all_goals exact ⟨rfl, Below.refl _ _⟩
      · have hE : Lib.indexByte (⟨#[34]⟩ : ByteArray).data.toList ((x.toNat : Int)).toNat.toUInt8 = -1 := by rw [hci]; simp [Lib.indexByte, Ne.symm hxd]
        have hE2 : Lib.indexByte [x] 34 = -1 := by simp [Lib.indexByte, hxd]
        rw [hE2]
        go_enter Tryz.func60, Tryz.ntmps60
        go_wp2_with fail
        rw [run_callFunc_extern Tryz.func77 (by kernel_rfl) (by kernel_rfl) (by kernel_rfl) (e := Extern.BytealgIndexByte.indexByte) (by kernel_rfl), Lib.run_indexByteString, hE]
        simp only [Result.andThen]
        rw [Oper.upon_value]
        go_wp2_with fail
        all_goals go_ret
        all_goals exact ⟨rfl, Below.refl _ _⟩
  · have q1 : ((s.length : Int) == 1) = false := by simp; omega
    have qx : ∀ h, ((⟨#[34]⟩ : ByteArray)[0]'h) = 34 := fun _ => rfl
    have qw : wrap32 ((((34 : UInt8).toNat : Nat)) : Int) = 34 := by simp [wrap32]
    have q2 : ¬ (s.length : Int) = 1 := by omega
    have hb := Lib.hid (index_rune34 s g c w hr)
    go_enter Tryz.func60, Tryz.ntmps60
    go_wp2_with (go_at_call 78; (with_reducible refine hb.out.mono ?_); rintro e w2 ⟨rfl, rfl⟩)
    all_goals go_ret
    all_goals exact ⟨rfl, Below.refl _ _⟩

end Go.Proofs.YtepdfkgadigafaaGreatDoor