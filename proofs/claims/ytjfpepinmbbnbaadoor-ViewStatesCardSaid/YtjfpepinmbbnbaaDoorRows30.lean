/-
  palinoderef30.Same at two rows of the same texts; of chapter 30.
  Conditions: as each theorem states them.
-/
import Derived.Test.YtjfpepinmbbnbaaDoorStAt
import Derived.Test.YtjfpepinmbbnbaaDoorMapT
import Derived.Deep.LoopGhost
namespace Go.Proofs.YtjfpepinmbbnbaaDoor
open Go.RowKit
set_option linter.unusedVariables false
set_option linter.unusedSimpArgs false
set_option maxHeartbeats 2000000 in
theorem rowsame_any (v1 v2 : Value) (ts : List ByteArray) (w : World) (hl : ts.length ≤ 1000000) (h1 : StrsAt w v1 ts) (h2 : StrsAt w v2 ts) :
    Calls Tryd.prog 38 #[v1, v2] w fun e w' => e = .returned (.bool true) ∧ Below w.heap.size w w' := by
  obtain ⟨a1, c1, rfl, _, h1⟩ := h1
  obtain ⟨a2, c2, rfl, _, h2⟩ := h2
  have hq : ((ts.length : Int) != ts.length) = false := by simp
  obtain ⟨n, hn⟩ : ∃ n, ts.length = n := ⟨_, rfl⟩
  rw [hn] at hq hl ⊢
  replace h1 := Lib.hid h1
  replace h2 := Lib.hid h2
  replace hn := Lib.hid hn
  go_enter Tryd.func38, Tryd.ntmps38
  go_wp2_with fail
  go_loopg [5] n (fun gh i wr => ∃ k : Nat, gh = n - k ∧ i = .int .i64 (k : Int) ∧ k ≤ n ∧ ∃ m, Hid (wr = w.drewN m))
  case atStart => exact ⟨0, rfl, rfl, by omega, 0, Lib.hid rfl⟩
  case round =>
    obtain ⟨k, rfl, rfl, hk, m, hm⟩ := hrel
    by_cases hlt : k < n
    · obtain ⟨p, o, rfl, hp, hr⟩ := h1.out (by rw [hn.out]; omega)
      obtain ⟨p', o', rfl, hp', hr'⟩ := h2.out (by rw [hn.out]; omega)
      have hk2 : k < ts.length := by rw [hn.out]; exact hlt
      have e1 : wr.cell? ⟨p, o + k, none⟩ = some (.string ts[k]) := by rw [hm.out]; exact hr k hk2
      have e2 : wr.cell? ⟨p', o' + k, none⟩ = some (.string ts[k]) := by rw [hm.out]; exact hr' k hk2
      clear hr hr'
      obtain ⟨x, hx⟩ : ∃ x, ts[k] = x := ⟨_, rfl⟩
      rw [hx] at e1 e2
      clear hx
      clear hk2
      have q1 : (x != x) = false := by rw [bne, ba_refl]; rfl
      go_wp2_with (go_quiet (fail))
      all_goals go_roundg (n - (k + 1))
      case measure => omega
      case rel => exact ⟨k + 1, rfl, by go_num, by omega, _, Lib.hid (by rw [hm.out, World.drewN_drewN])⟩
    · obtain rfl : k = n := by omega
      go_wp2_with fail
      go_ret
      exact ⟨rfl, by rw [hm.out]; exact bl_drewN (Below.refl _ _) m⟩
end Go.Proofs.YtjfpepinmbbnbaaDoor
