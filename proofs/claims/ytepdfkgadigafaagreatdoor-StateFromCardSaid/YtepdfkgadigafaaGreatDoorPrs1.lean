/-
  scan.Open; a prefix of a short text; jumps of the script p; of chapter 16.
  Conditions: as each theorem states them.
-/
import Derived.Test.YtepdfkgadigafaaGreatDoorCmP
import Derived.Test.YtepdfkgadigafaaGreatDoorPrs0
import Derived.Test.YtepdfkgadigafaaGreatDoorCpA
namespace Go.Proofs.YtepdfkgadigafaaGreatDoor
open Go.RowKit
set_option linter.unusedVariables false
set_option linter.unusedSimpArgs false
theorem cells_bytes {lo hi : Nat} {w : World} {a : Option Addr} {xs : List UInt8} (h : CellsI lo hi w a (xs.map bv)) (hh : hi ≤ w.heap.size) : BytesAt w a xs := fun h0 => by
  obtain ⟨p, o, e, h1, h2, h3⟩ := h (by simpa using h0)
  refine ⟨p, o, e, by omega, fun i hi => ?_⟩
  rw [(h3 i (by simpa using hi)).1]
  simp [bv]
theorem own_rng {w : World} {base e k n m : Nat} {a : Option Addr} {c : Nat} {xs : List Value} (h : w.ownsRow base e k (.slice a n c) m xs) : ∀ b o, a = some ⟨b, o, none⟩ → base ≤ b ∧ b < w.heap.size := fun b o e => by
  subst e
  rcases h.2 with ⟨h1, _⟩ | ⟨g, cap, cur, h1, h2, h3, _⟩
  · cases h1
  · injection h1 with h4 h5 h6
    injection h4 with h4
    injection h4 with h4 h7
    subst h4
    exact ⟨h2, (Array.getElem?_eq_some_iff.1 h3).1⟩
set_option maxHeartbeats 2000000 in
set_option maxRecDepth 100000 in
theorem sopen_any (ba : Option Addr) (n bc : Nat) (xs : List UInt8) (w : World) (hn : xs.length = n) (hl : xs.length ≤ 100000) (hs : ByAt (fun _ => True) false w ba xs) :
    Calls Tryz.prog 87 #[.slice ba n bc] w fun e w' => ∃ g b' c', e = .returned (.pointer (some ⟨g, 0, none⟩)) ∧ CuAt w' g b' c' xs 0 ∧ w.heap.size ≤ g ∧ (∀ b o, b' = some ⟨b, o, none⟩ → w.heap.size ≤ b ∧ b < g) ∧ Below w.heap.size w w' := by
  subst hn
  have hc := Lib.hid (clone_any ba bc xs w (by omega) hs)
  clear hs
  go_enter Tryz.func87, Tryz.ntmps87
  go_wp2_with (go_at_call 29; (with_reducible refine hc.out.mono ?_); rintro e w2 ⟨v, rfl, ho, hb⟩; obtain ⟨s, rfl, hsn, hsc, hci⟩ := cells_own ho; obtain ⟨sa, sn, sc⟩ := s; simp only at hsn hsc hci; subst hsn; replace ho := Lib.hid ho; replace hci := Lib.hid hci)
  all_goals go_ret
  refine ⟨w2.heap.size, sa, sc, rfl, ⟨Blk.new w2 _ _, ?_, ?_, Nat.zero_le _, hl, hsc⟩, hb.size, fun b o e => ?_, bl_alloc hb _⟩
  · exact (cells_bytes hci.out (Nat.le_refl _)).below (bl_alloc (Below.refl _ _) _)
  · intro b o e
    have := own_rng ho.out b o e
    omega
  · exact own_rng ho.out b o e
set_option maxHeartbeats 2000000 in
set_option maxRecDepth 100000 in
theorem hpre_p (w : World) : Calls Tryz.prog 89 #[.string ⟨#[112]⟩, .string ⟨#[35, 110, 10]⟩] w fun e w' => e = .returned (.bool false) ∧ w = w' := by
  have h1 : ∀ W, Calls Tryz.prog 114 #[.string ⟨#[112]⟩, .string ⟨#[35, 110, 10]⟩] W fun e w' => e = .returned (.bool false) ∧ W = w' := fun W => by
    go_enter Tryz.func114, Tryz.ntmps114
    go_wp2_with fail
    all_goals go_ret
    all_goals exact ⟨rfl, rfl⟩
  replace h1 := Lib.hid h1
  go_enter Tryz.func89, Tryz.ntmps89
  go_wp2_with (go_at_call 114; (with_reducible refine (h1.out _).mono ?_); rintro e w2 ⟨rfl, rfl⟩)
  all_goals go_ret
  all_goals exact ⟨rfl, rfl⟩
theorem own_at {w : World} {base e k m : Nat} {v : Value} {xs : List Value} (h : w.ownsRow base e k v m xs) (h0 : 0 < m) : ∃ g c, v = .slice (some ⟨g, 0, none⟩) m c ∧ base ≤ g ∧ m ≤ c ∧ c ≤ maxLen ∧ ∀ j, j < xs.length → w.cell? ⟨g, j, none⟩ = xs[j]? ∧ w.frozen? ⟨g, j, none⟩ = false := by
  rcases h.2 with ⟨_, h1⟩ | ⟨g, cap, cur, rfl, h2, h3, h4, h5, h6, h7⟩
  · omega
  · refine ⟨g, cap, rfl, h2, h4, h5, fun j hj => ⟨?_, ?_⟩⟩
    · rw [cell_of_row w g j cur e (0, 0) h3]
      have hl := h.1
      rw [← h7, List.getElem?_take, if_pos (by omega)]
      simp
    · simp only [World.frozen?]
      rw [h3]
      simp
set_option maxHeartbeats 2000000 in
set_option maxRecDepth 100000 in
theorem jumps_p {w : World} {p g : Nat} {ba : Option Addr} {c m base : Nat} {v : Value} (h : PaAt w p g ba c pS 1 (pR m v)) (ho : w.ownsRow base 168 21 v 1 (pC 112)) :
    Calls Tryz.prog 94 #[.pointer (some ⟨p, 0, none⟩)] w fun e w' => e = .returned (.tuple #[]) ∧ w = w' := by
  obtain ⟨gg, cc, rfl, _, _, _, hcell⟩ := own_at ho (by omega)
  have c1 := h.pa.cell 1
  have k7 : w.cell? ⟨gg, 7, none⟩ = some (.int .u8 112) := (hcell 7 (by decide)).1
  simp only [List.getElem?_cons_succ, List.getElem?_cons_zero] at c1
  clear h ho hcell
  go_enter Tryz.func94, Tryz.ntmps94
  go_wp2_with fail
  refine wp_loop_rounds 2 ?_
  rw [rounds_succ]
  go_wp2_with fail
  rw [rounds_succ]
  go_wp2_with fail
  all_goals (first | go_end0 | refine bodyPost_ret (results_none rfl _ _ _) rfl ?_)
  all_goals exact ⟨rfl, rfl⟩
end Go.Proofs.YtepdfkgadigafaaGreatDoor
