/-
  Rows of strings in memory, and the contracts of what looks for one among them, of chapter 29.
  Conditions: as each theorem states them.
-/
import Derived.Test.YtjfpepinmbbnbaaDoorOrdM
import Derived.Test.YtjfpepinmbbnbaaDoorNum2
import Derived.Deep.LoopGhost
namespace Go.Proofs.YtjfpepinmbbnbaaDoor
open Go.RowKit
set_option linter.unusedVariables false
set_option linter.unusedSimpArgs false
abbrev strV (x : List UInt8) : Value := .string ⟨x.toArray⟩
/-- strings at an address, in a block of K -/
def StrAt (K : Nat → Prop) (w : World) (a : Option Addr) (xs : List (List UInt8)) : Prop :=
  0 < xs.length → ∃ b o, a = some ⟨b, o, none⟩ ∧ K b ∧ b < w.heap.size ∧ ∀ i (h : i < xs.length), w.cell? ⟨b, o + i, none⟩ = some (strV xs[i])
theorem StrAt.nil (K : Nat → Prop) (w : World) (a : Option Addr) : StrAt K w a [] := fun h => by simp at h
theorem StrAt.mono {K L : Nat → Prop} {w : World} {a : Option Addr} {xs : List (List UInt8)} (h : StrAt K w a xs) (hK : ∀ b, K b → L b) : StrAt L w a xs := fun h0 => let ⟨b, o, e, k, l, r⟩ := h h0; ⟨b, o, e, hK b k, l, r⟩
theorem StrAt.any {K : Nat → Prop} {w : World} {a : Option Addr} {xs : List (List UInt8)} (h : StrAt K w a xs) : StrAt (fun _ => True) w a xs := h.mono (fun _ _ => trivial)
theorem StrAt.keep {K : Nat → Prop} {w w' : World} {a : Option Addr} {xs : List (List UInt8)} (h : StrAt K w a xs) (hs : w.heap.size ≤ w'.heap.size) (hk : ∀ b, K b → b < w.heap.size → w'.heap[b]? = w.heap[b]?) : StrAt K w' a xs :=
  fun h0 => let ⟨b, o, e, k, l, r⟩ := h h0; ⟨b, o, e, k, Nat.lt_of_lt_of_le l hs, fun i hi => by have := r i hi; simp only [World.cell?] at this ⊢; rw [hk b k l]; exact this⟩
theorem StrAt.below {K : Nat → Prop} {w w' : World} {a : Option Addr} {xs : List (List UInt8)} (h : StrAt K w a xs) (hb : Below w.heap.size w w') : StrAt K w' a xs := h.keep hb.size (fun b _ l => hb.block b l)
theorem StrAt.nth {K : Nat → Prop} {w : World} {a : Option Addr} {xs : List (List UInt8)} (h : StrAt K w a xs) {i : Nat} (hi : i < xs.length) : ∃ b o, a = some ⟨b, o, none⟩ ∧ w.cell? ⟨b, o + i, none⟩ = some (strV xs[i]) := by
  obtain ⟨b, o, e, _, _, r⟩ := h (by omega); exact ⟨b, o, e, r i hi⟩
theorem idx_at {xs : List (List UInt8)} {v : List UInt8} {k : Nat} (hk : k < xs.length) (h : ∀ i (h : i < xs.length), i < k → xs[i] ≠ v) (e : xs[k] = v) : OM.idx xs v = (k : Int) := by
  have : xs.findIdx? (· == v) = some k := by
    rw [List.findIdx?_eq_some_iff_getElem]
    exact ⟨hk, by simpa using e, fun j hj => by simpa using h j (by omega) hj⟩
  unfold OM.idx
  rw [this]
theorem idx_no {xs : List (List UInt8)} {v : List UInt8} (h : ∀ i (h : i < xs.length), xs[i] ≠ v) : OM.idx xs v = -1 := by
  have : xs.findIdx? (· == v) = none := by
    rw [List.findIdx?_eq_none_iff]
    intro x hx
    obtain ⟨i, hi, e⟩ := List.mem_iff_getElem.1 hx
    simpa using fun e' => h i hi (e.trans e')
  unfold OM.idx
  rw [this]
def NoneOf (k : Nat) (xs : List (List UInt8)) (v : List UInt8) : Prop := ∀ i (h : i < xs.length), i < k → xs[i] ≠ v
theorem NoneOf.succ {k : Nat} {xs : List (List UInt8)} {v : List UInt8} (h : NoneOf k xs v) (hk : k < xs.length) (e : ¬ xs[k] = v) : NoneOf (k + 1) xs v := fun i hi hlt => by
  by_cases hik : i = k
  · subst hik; exact e
  · exact h i hi (by omega)
theorem idx_all {k : Nat} {xs : List (List UInt8)} {v : List UInt8} (h : NoneOf k xs v) (hk : xs.length ≤ k) : OM.idx xs v = -1 := idx_no fun i hi => h i hi (by omega)
set_option maxHeartbeats 1000000 in
theorem index_any (a : Option Addr) (c : Nat) (xs : List (List UInt8)) (v : List UInt8) (w : World) (hl : xs.length ≤ 1000000) (h : StrAt (fun _ => True) w a xs) :
    Calls Tryd.prog 82 #[.slice a xs.length c, strV v] w fun e w' => e = .returned (.int .i64 (OM.idx xs v)) ∧ w = w' := by
  replace h := Lib.hid h
  go_enter Tryd.func82, Tryd.ntmps82
  go_wp2_with fail
  go_loopg [8] xs.length (fun g i wr => ∃ k : Nat, g = xs.length - k ∧ i = .int .i64 (k : Int) ∧ k ≤ xs.length ∧ NoneOf k xs v ∧ w = wr)
  case atStart => exact ⟨0, rfl, rfl, by omega, fun i _ h => by omega, rfl⟩
  case round =>
    obtain ⟨k, rfl, rfl, hk, hn, rfl⟩ := hrel
    by_cases hlt : k < xs.length
    · obtain ⟨b, o, rfl, c1⟩ := h.out.nth hlt
      by_cases e : xs[k] = v
      · have hf := Lib.hid (idx_at hlt hn e)
        have ee : (v == xs[k]) = true := by simp [e]
        clear hn
        replace e := Lib.hid e
        go_wp2_with fail
        all_goals go_ret
        all_goals exact ⟨ret_int hf.out.symm, rfl⟩
      · have hn' := hn.succ hlt e
        have ee : (v == xs[k]) = false := by simp; exact fun h => e h.symm
        clear hn
        replace e := Lib.hid e
        go_wp2_with fail
        all_goals go_roundg (xs.length - (k + 1))
        case measure => omega
        case rel => exact ⟨k + 1, rfl, by go_num, by omega, hn', rfl⟩
    · have hf := Lib.hid (idx_all hn (by omega))
      clear hn
      go_wp2_with fail
      all_goals go_ret
      all_goals exact ⟨ret_int hf.out.symm, rfl⟩
set_option maxHeartbeats 1000000 in
theorem in_any29 (a : Option Addr) (c : Nat) (xs : List (List UInt8)) (v : List UInt8) (w : World) (hl : xs.length ≤ 1000000) (h : StrAt (fun _ => True) w a xs) :
    Calls Tryd.prog 52 #[strV v, .slice a xs.length c] w fun e w' => e = .returned (.int .i64 (OM.idx xs v)) ∧ w = w' := by
  replace h := Lib.hid h
  go_enter Tryd.func52, Tryd.ntmps52
  go_wp2_with fail
  go_loopg [5] xs.length (fun g i wr => ∃ k : Nat, g = xs.length - k ∧ i = .int .i64 (k : Int) ∧ k ≤ xs.length ∧ NoneOf k xs v ∧ w = wr)
  case atStart => exact ⟨0, rfl, rfl, by omega, fun i _ h => by omega, rfl⟩
  case round =>
    obtain ⟨k, rfl, rfl, hk, hn, rfl⟩ := hrel
    by_cases hlt : k < xs.length
    · obtain ⟨b, o, rfl, c1⟩ := h.out.nth hlt
      by_cases e : xs[k] = v
      · have hf := Lib.hid (idx_at hlt hn e)
        have ee : (xs[k] == v) = true := by simp [e]
        clear hn
        replace e := Lib.hid e
        go_wp2_with fail
        all_goals go_ret
        all_goals exact ⟨ret_int hf.out.symm, rfl⟩
      · have hn' := hn.succ hlt e
        have ee : (xs[k] == v) = false := by simpa using e
        clear hn
        replace e := Lib.hid e
        go_wp2_with fail
        all_goals go_roundg (xs.length - (k + 1))
        case measure => omega
        case rel => exact ⟨k + 1, rfl, by go_num, by omega, hn', rfl⟩
    · have hf := Lib.hid (idx_all hn (by omega))
      clear hn
      go_wp2_with fail
      all_goals go_ret
      all_goals exact ⟨ret_int hf.out.symm, rfl⟩
def mem29 (xs : List (List UInt8)) (v : List UInt8) : Bool := decide (v ∈ xs)
theorem idx_ge {xs : List (List UInt8)} {v : List UInt8} : (0 ≤ OM.idx xs v ↔ v ∈ xs) := by
  unfold OM.idx
  cases h : xs.findIdx? (· == v) with
  | none =>
    rw [List.findIdx?_eq_none_iff] at h
    simp only [show ¬ (0 : Int) ≤ -1 by omega, false_iff]
    intro hm
    have := h v hm
    simp at this
  | some i =>
    rw [List.findIdx?_eq_some_iff_getElem] at h
    obtain ⟨hi, e, _⟩ := h
    have : xs[i] = v := by simpa using e
    simp only [show (0 : Int) ≤ (i : Int) by omega, true_iff]
    exact this ▸ List.getElem_mem hi
theorem idx_bound {xs : List (List UInt8)} {v : List UInt8} : -1 ≤ OM.idx xs v ∧ OM.idx xs v < xs.length := by
  unfold OM.idx
  cases h : xs.findIdx? (· == v) with
  | none => simp; omega
  | some i =>
    rw [List.findIdx?_eq_some_iff_getElem] at h
    obtain ⟨hi, _⟩ := h
    simp; omega
theorem idx_dec {xs : List (List UInt8)} {v : List UInt8} : decide (0 ≤ OM.idx xs v) = mem29 xs v := by unfold mem29; rw [Bool.eq_iff_iff]; simp [idx_ge]
set_option maxHeartbeats 1000000 in
theorem contains_any (a : Option Addr) (c : Nat) (xs : List (List UInt8)) (v : List UInt8) (w : World) (hl : xs.length ≤ 1000000) (h : StrAt (fun _ => True) w a xs) :
    Calls Tryd.prog 85 #[.slice a xs.length c, strV v] w fun e w' => e = .returned (.bool (mem29 xs v)) ∧ w = w' := by
  have hi := Lib.hid (index_any a c xs v w hl h)
  have hd := Lib.hid (idx_dec (xs := xs) (v := v))
  clear h
  go_enter Tryd.func85, Tryd.ntmps85
  go_wp2_with (go_at_call 82; refine hi.out.mono ?_; rintro e w' ⟨rfl, rfl⟩)
  all_goals go_ret
  all_goals exact ⟨ret_bool hd.out, rfl⟩
/-! ### whether a name is one -/
def nameB (c : UInt8) : Bool := decide (33 ≤ c.toNat) && decide (c.toNat ≤ 126)
def AllB (p : UInt8 → Bool) (k : Nat) (xs : List UInt8) : Prop := ∀ i (h : i < xs.length), i < k → p xs[i] = true
theorem AllB.succ {p : UInt8 → Bool} {k : Nat} {xs : List UInt8} (h : AllB p k xs) (hk : k < xs.length) (e : p xs[k] = true) : AllB p (k + 1) xs := fun i hi hlt => by
  by_cases hik : i = k
  · subst hik; exact e
  · exact h i hi (by omega)
theorem AllB.all {p : UInt8 → Bool} {k : Nat} {xs : List UInt8} (h : AllB p k xs) (hk : xs.length ≤ k) : xs.all p = true := by
  rw [List.all_eq_true]
  intro x hx
  obtain ⟨i, hi, e⟩ := List.mem_iff_getElem.1 hx
  subst e
  exact h i hi (by omega)
theorem all_not {p : UInt8 → Bool} {k : Nat} {xs : List UInt8} (hk : k < xs.length) (e : p xs[k] = false) : xs.all p = false := by
  rw [Bool.eq_false_iff]
  intro h
  rw [List.all_eq_true] at h
  rw [h _ (List.getElem_mem hk)] at e
  cases e
theorem isName_eq (xs : List UInt8) : OM.isName xs = (decide (1 ≤ xs.length) && decide (xs.length ≤ 64) && xs.all nameB) := rfl
theorem ba_at {xs : List UInt8} {k : Nat} (h : k < xs.length) (h' : k < (⟨xs.toArray⟩ : ByteArray).size) : (⟨xs.toArray⟩ : ByteArray)[k] = xs[k] := by
  show xs.toArray[k]'(by simpa using h) = xs[k]
  simp
theorem ba_size (xs : List UInt8) : (⟨xs.toArray⟩ : ByteArray).size = xs.length := by show xs.toArray.size = _; simp
theorem name_no {xs : List UInt8} {k : Nat} (hk : k < xs.length) (e : nameB xs[k] = false) : OM.isName xs = false := by
  rw [isName_eq, all_not hk e]; simp
theorem name_long {xs : List UInt8} (h : 64 < xs.length) : OM.isName xs = false := by
  rw [isName_eq, show decide (xs.length ≤ 64) = false by rw [decide_eq_false_iff_not]; omega]; simp
theorem name_short {xs : List UInt8} (h : xs.length < 1) : OM.isName xs = false := by
  rw [isName_eq, show decide (1 ≤ xs.length) = false by rw [decide_eq_false_iff_not]; omega]; simp
theorem name_yes {xs : List UInt8} {k : Nat} (h : AllB nameB k xs) (hk : xs.length ≤ k) : OM.isName xs = (decide (1 ≤ xs.length) && decide (xs.length ≤ 64)) := by
  rw [isName_eq, h.all hk]; simp
set_option maxHeartbeats 2000000 in
theorem isName_any (xs : List UInt8) (w : World) (hs : xs.length ≤ 9223372036854775806) :
    Calls Tryd.prog 84 #[strV xs] w fun e w' => e = .returned (.bool (OM.isName xs)) ∧ w = w' := by
  go_enter Tryd.func84, Tryd.ntmps84
  go_wp2_with fail
  go_loopg [6] xs.length (fun g i wr => ∃ k : Nat, g = xs.length - k ∧ i = .int .i64 (k : Int) ∧ k ≤ xs.length ∧ AllB nameB k xs ∧ w = wr)
  case atStart => exact ⟨0, rfl, rfl, by omega, fun i _ h => by omega, rfl⟩
  case round =>
    obtain ⟨k, rfl, rfl, hk, hn, rfl⟩ := hrel
    by_cases hlt : k < xs.length
    · have hby := ba_at hlt (by rw [ba_size]; exact hlt)
      by_cases hp : nameB xs[k] = true
      · have hn' := hn.succ hlt hp
        simp only [nameB, Bool.and_eq_true, decide_eq_true_eq] at hp
        have q1 : decide (((⟨xs.toArray⟩ : ByteArray)[k]'(by rw [ba_size]; exact hlt)).toNat < 33) = false := by rw [hby]; simp; omega
        have q2 : decide (126 < ((⟨xs.toArray⟩ : ByteArray)[k]'(by rw [ba_size]; exact hlt)).toNat) = false := by rw [hby]; simp; omega
        have q3 : 33 ≤ ((⟨xs.toArray⟩ : ByteArray)[k]'(by rw [ba_size]; exact hlt)).toNat ∧ ((⟨xs.toArray⟩ : ByteArray)[k]'(by rw [ba_size]; exact hlt)).toNat ≤ 126 := by rw [hby]; omega
        clear hn hp hby
        go_wp2_with fail
        all_goals go_roundg (xs.length - (k + 1))
        case measure => omega
        case rel => exact ⟨k + 1, rfl, by go_num, by omega, hn', rfl⟩
      · rw [Bool.not_eq_true] at hp
        have hf := Lib.hid (name_no hlt hp)
        simp only [nameB, Bool.and_eq_false_iff, decide_eq_false_iff_not] at hp
        clear hn
        by_cases hp1 : 33 ≤ xs[k].toNat
        · have q1 : 33 ≤ ((⟨xs.toArray⟩ : ByteArray)[k]'(by rw [ba_size]; exact hlt)).toNat ∧ 126 < ((⟨xs.toArray⟩ : ByteArray)[k]'(by rw [ba_size]; exact hlt)).toNat := by rw [hby]; omega
          clear hp hp1 hby
          go_wp2_with fail
          all_goals go_ret
          all_goals exact ⟨ret_bool hf.out.symm, rfl⟩
        · have q1 : ((⟨xs.toArray⟩ : ByteArray)[k]'(by rw [ba_size]; exact hlt)).toNat < 33 := by rw [hby]; omega
          clear hp hp1 hby
          go_wp2_with fail
          all_goals go_ret
          all_goals exact ⟨ret_bool hf.out.symm, rfl⟩
    · have hf := Lib.hid (name_yes hn (by omega))
      clear hn
      by_cases h1 : 1 ≤ xs.length
      · have q1 : decide (1 ≤ xs.length) = true := by simpa using h1
        have q2 : (1 : Int) ≤ xs.length := by omega
        go_wp2_with fail
        all_goals go_ret
        all_goals exact ⟨ret_bool (by rw [hf.out, q1]; first | (simp; done) | (rw [Bool.true_and, Bool.eq_iff_iff]; simp only [decide_eq_true_eq]; omega)), rfl⟩
      · have q1 : decide (1 ≤ xs.length) = false := by simpa using h1
        go_wp2_with fail
        all_goals go_ret
        all_goals exact ⟨ret_bool (by rw [hf.out, q1]; first | (simp; done) | (rw [Bool.true_and, Bool.eq_iff_iff]; simp only [decide_eq_true_eq]; omega)), rfl⟩
set_option maxHeartbeats 2000000 in
theorem rname_any (xs : List UInt8) (w : World) (hs : xs.length ≤ 9223372036854775806) :
    Calls Tryd.prog 53 #[strV xs] w fun e w' => e = .returned (.bool (OM.isName xs)) ∧ w = w' := by
  by_cases h1 : xs.length < 1
  · have hf := Lib.hid (name_short h1)
    go_enter Tryd.func53, Tryd.ntmps53
    go_wp2_with fail
    all_goals go_ret
    all_goals exact ⟨ret_bool hf.out.symm, rfl⟩
  · by_cases h2 : 64 < xs.length
    · have hf := Lib.hid (name_long h2)
      go_enter Tryd.func53, Tryd.ntmps53
      go_wp2_with fail
      all_goals go_ret
      all_goals exact ⟨ret_bool hf.out.symm, rfl⟩
    · have q0 : decide ((xs.length : Int) < 1) = false := by rw [decide_eq_false_iff_not]; omega
      have q00 : decide ((64 : Int) < xs.length) = false := by rw [decide_eq_false_iff_not]; omega
      go_enter Tryd.func53, Tryd.ntmps53
      go_wp2_with fail
      go_loopg [3] xs.length (fun g i wr => ∃ k : Nat, g = xs.length - k ∧ i = .int .i64 (k : Int) ∧ k ≤ xs.length ∧ AllB nameB k xs ∧ w = wr)
      case atStart => exact ⟨0, rfl, rfl, by omega, fun i _ h => by omega, rfl⟩
      case round =>
        obtain ⟨k, rfl, rfl, hk, hn, rfl⟩ := hrel
        by_cases hlt : k < xs.length
        · have hby := ba_at hlt (by rw [ba_size]; exact hlt)
          by_cases hp : nameB xs[k] = true
          · have hn' := hn.succ hlt hp
            simp only [nameB, Bool.and_eq_true, decide_eq_true_eq] at hp
            have q3 : 33 ≤ ((⟨xs.toArray⟩ : ByteArray)[k]'(by rw [ba_size]; exact hlt)).toNat ∧ ((⟨xs.toArray⟩ : ByteArray)[k]'(by rw [ba_size]; exact hlt)).toNat ≤ 126 := by rw [hby]; omega
            clear hn hp hby
            go_wp2_with fail
            all_goals go_roundg (xs.length - (k + 1))
            case measure => omega
            case rel => exact ⟨k + 1, rfl, by go_num, by omega, hn', rfl⟩
          · rw [Bool.not_eq_true] at hp
            have hf := Lib.hid (name_no hlt hp)
            simp only [nameB, Bool.and_eq_false_iff, decide_eq_false_iff_not] at hp
            clear hn
            by_cases hp1 : 33 ≤ xs[k].toNat
            · have q1 : 33 ≤ ((⟨xs.toArray⟩ : ByteArray)[k]'(by rw [ba_size]; exact hlt)).toNat ∧ 126 < ((⟨xs.toArray⟩ : ByteArray)[k]'(by rw [ba_size]; exact hlt)).toNat := by rw [hby]; omega
              clear hp hp1 hby
              go_wp2_with fail
              all_goals go_ret
              all_goals exact ⟨ret_bool hf.out.symm, rfl⟩
            · have q1 : ((⟨xs.toArray⟩ : ByteArray)[k]'(by rw [ba_size]; exact hlt)).toNat < 33 := by rw [hby]; omega
              clear hp hp1 hby
              go_wp2_with fail
              all_goals go_ret
              all_goals exact ⟨ret_bool hf.out.symm, rfl⟩
        · have hf := Lib.hid (name_yes hn (by omega))
          have q1 : decide (1 ≤ xs.length) = true := by rw [decide_eq_true_eq]; omega
          have q2 : decide (xs.length ≤ 64) = true := by rw [decide_eq_true_eq]; omega
          clear hn
          go_wp2_with fail
          all_goals go_ret
          all_goals exact ⟨ret_bool (by rw [hf.out, q1, q2]; rfl), rfl⟩
end Go.Proofs.YtjfpepinmbbnbaaDoor
