/-
  The plain law of conditions: a number's text with a sign, a text's with a quote; of chapter 27; lists alone.
  Conditions: as each theorem states them.
-/
import Derived.Test.YtlaafamodaogmaaCondL
namespace Go.Proofs.Ytlaafamodaogmaa
set_option linter.unusedVariables false
set_option linter.unusedSimpArgs false
namespace CM
theorem parse_num {s sgn : List UInt8} {b b2 b3 e : Nat} {N : Int} (h1 : nextS s 0 = .ok (⟨1, 0, 0, lineW⟩, 4)) (h2 : nextS s 4 = .ok (⟨4, b, 0, sgn⟩, b2)) (h3 : nextS s b2 = .ok (⟨2, b3, N, []⟩, e)) (h4 : nextS s e = .ok (⟨0, e, 0, []⟩, e)) (hl : s.length ≤ 4096) :
    parseS s = .ok (fun _ now => signOf sgn now.line N) := by
  unfold parseS
  rw [if_neg (by omega), h1]
  simp only
  rw [show fuel s = (3 * s.length + 2) + 1 + 1 + 1 + 1 from rfl]
  simp [run, atomS, numberS, Ps.take, Ps.next, h2, h3, h4, Pc.is, flagOf, numOf, notW, lineW, changedW, substW, silentW, quitW, againW, failedW, andW, orW]
theorem parse_txt {s t : List UInt8} {b b2 e : Nat} (h1 : nextS s 0 = .ok (⟨1, 0, 0, holdW⟩, 4)) (h2 : nextS s 4 = .ok (⟨1, 5, 0, isW⟩, b)) (h3 : nextS s b = .ok (⟨3, b2, 0, t⟩, e)) (h4 : nextS s e = .ok (⟨0, e, 0, []⟩, e)) (hl : s.length ≤ 4096) :
    parseS s = .ok (fun _ now => now.hold == t) := by
  unfold parseS
  rw [if_neg (by omega), h1]
  simp only
  rw [show fuel s = (3 * s.length + 2) + 1 + 1 + 1 + 1 from rfl]
  simp [run, atomS, textS, Ps.take, Ps.next, h2, h3, h4, Pc.is, flagOf, numOf, txtOf, notW, lineW, pcW, exitW, waitsW, holdW, patternW, isW, hasW, changedW, substW, silentW, quitW, againW, failedW, andW, orW]
theorem parse_has {s t : List UInt8} {b b2 e : Nat} (h1 : nextS s 0 = .ok (⟨1, 0, 0, holdW⟩, 4)) (h2 : nextS s 4 = .ok (⟨1, 5, 0, hasW⟩, b)) (h3 : nextS s b = .ok (⟨3, b2, 0, t⟩, e)) (h4 : nextS s e = .ok (⟨0, e, 0, []⟩, e)) (hl : s.length ≤ 4096) :
    parseS s = .ok (fun _ now => hasS now.hold t) := by
  unfold parseS
  rw [if_neg (by omega), h1]
  simp only
  rw [show fuel s = (3 * s.length + 2) + 1 + 1 + 1 + 1 from rfl]
  simp [run, atomS, textS, Ps.take, Ps.next, h2, h3, h4, Pc.is, flagOf, numOf, txtOf, notW, lineW, pcW, exitW, waitsW, holdW, patternW, isW, hasW, changedW, substW, silentW, quitW, againW, failedW, andW, orW]
theorem next_stop (s : List UInt8) : nextS s s.length = .ok (⟨0, s.length, 0, []⟩, s.length) := by
  have : skip s s.length = s.length := by simp [skip]
  unfold nextS
  rw [this, List.drop_length]
  rfl
theorem takeWhile_dig : ∀ {d : List UInt8} (hd : ∀ x ∈ d, dig x = true), d.takeWhile dig = d
  | [], _ => rfl
  | c :: r, h => by rw [List.takeWhile_cons, if_pos (h c (by simp)), takeWhile_dig (fun x hx => h x (by simp [hx]))]
theorem dig_blank {c : UInt8} (h : dig c = true) : blank c = false ∧ low c = false ∧ c ≠ 34 := by
  simp only [dig, Bool.and_eq_true, decide_eq_true_eq] at h
  refine ⟨?_, ?_, ?_⟩
  · simp only [blank, beq_eq_false_iff_ne, ne_eq]; rintro rfl; revert h; decide
  · simp only [low, Bool.and_eq_false_iff, decide_eq_false_iff_not]; left; omega
  · rintro rfl; revert h; decide
theorem next_num {s : List UInt8} {a k : Nat} {c : UInt8} {r : List UInt8} (hs : s.drop a = List.replicate k 32 ++ (c :: r)) (ha : a ≤ s.length) (hd : ∀ x ∈ c :: r, dig x = true) (hN : valD (c :: r) ≤ 2147483648) :
    nextS s a = .ok (⟨2, a + k, valD (c :: r), []⟩, s.length) := by
  obtain ⟨n1, n2, n3⟩ := dig_blank (hd c (by simp))
  have hsk : skip s a = a + k := by
    unfold skip
    rw [hs, List.takeWhile_append_of_pos (by intro x hx; rw [List.eq_of_mem_replicate hx]; rfl)]
    simp [List.takeWhile_cons, n1]
  have hdr : s.drop (a + k) = c :: r := by
    rw [← List.drop_drop, hs]; simp
  have hlen : s.length = a + k + (c :: r).length := by
    have := congrArg List.length hs
    simp only [List.length_drop, List.length_append, List.length_replicate] at this
    omega
  unfold nextS
  rw [hsk, hdr]
  have hnum : numS s ((a + k : Nat) : Int) 2147483648 = (valD (c :: r), ((a + k : Nat) : Int) + (c :: r).length, 0) := by
    unfold numS
    rw [if_neg (by omega), show (((a + k : Nat) : Int)).toNat = a + k by omega, hdr]
    simp only [takeWhile_dig hd]
    rw [if_neg (by simp), if_neg (by omega)]
  unfold pieceS
  simp only [n2, hd c (by simp), if_true, Bool.false_eq_true, if_false, hnum]
  congr 2
  rw [hlen]; omega
/-- the six texts -/
def sgA : List (List UInt8) := [[60], [32, 61, 32], [32, 62], [60, 61], [62, 61, 32], [33, 61]]
theorem next_line (A d : List UInt8) (hA : A ∈ sgA) : nextS (lineW ++ A ++ d) 0 = .ok (⟨1, 0, 0, lineW⟩, 4) := by
  simp only [sgA, List.mem_cons, List.not_mem_nil, or_false] at hA
  rcases hA with rfl | rfl | rfl | rfl | rfl | rfl <;> rfl
theorem num_at {A sgn : List UInt8} {c : UInt8} {r : List UInt8} {b m k : Nat} (hA : A ∈ sgA) (h2 : nextS (lineW ++ A ++ (c :: r)) 4 = .ok (⟨4, b, 0, sgn⟩, m)) (hm : (lineW ++ A ++ (c :: r)).drop m = List.replicate k 32 ++ (c :: r))
    (hml : m ≤ 4 + A.length) (hd : ∀ x ∈ c :: r, dig x = true) (hN : valD (c :: r) ≤ 2147483648) (hl : r.length ≤ 100) :
    parseS (lineW ++ A ++ (c :: r)) = .ok (fun _ now => signOf sgn now.line (valD (c :: r))) := by
  have hAl : A.length ≤ 3 := by
    simp only [sgA, List.mem_cons, List.not_mem_nil, or_false] at hA
    rcases hA with rfl | rfl | rfl | rfl | rfl | rfl <;> simp
  have hlen : (lineW ++ A ++ (c :: r)).length = 4 + A.length + r.length + 1 := by simp; omega
  exact parse_num (next_line A _ hA) h2 (next_num hm (by omega) hd hN) (next_stop _) (by omega)
theorem parse_sg {c : UInt8} {r : List UInt8} (hd : ∀ x ∈ c :: r, dig x = true) (hN : valD (c :: r) ≤ 2147483648) (hl : r.length ≤ 100) :
    parseS (lineW ++ [60] ++ (c :: r)) = .ok (fun _ now => signOf [60] now.line (valD (c :: r)))
    ∧ parseS (lineW ++ [32, 61, 32] ++ (c :: r)) = .ok (fun _ now => signOf [61] now.line (valD (c :: r)))
    ∧ parseS (lineW ++ [32, 62] ++ (c :: r)) = .ok (fun _ now => signOf [62] now.line (valD (c :: r)))
    ∧ parseS (lineW ++ [60, 61] ++ (c :: r)) = .ok (fun _ now => signOf [60, 61] now.line (valD (c :: r)))
    ∧ parseS (lineW ++ [62, 61, 32] ++ (c :: r)) = .ok (fun _ now => signOf [62, 61] now.line (valD (c :: r)))
    ∧ parseS (lineW ++ [33, 61] ++ (c :: r)) = .ok (fun _ now => signOf [33, 61] now.line (valD (c :: r))) := by
  have hc : c ≠ 61 := by
    rintro rfl
    have := hd 61 (by simp)
    revert this; decide
  refine ⟨num_at (b := 4) (m := 5) (k := 0) (by simp [sgA]) ?_ rfl (by simp) hd hN hl, num_at (b := 5) (m := 6) (k := 1) (by simp [sgA]) rfl rfl (by simp) hd hN hl, num_at (b := 5) (m := 6) (k := 0) (by simp [sgA]) ?_ rfl (by simp) hd hN hl,
    num_at (b := 4) (m := 6) (k := 0) (by simp [sgA]) rfl rfl (by simp) hd hN hl, num_at (b := 4) (m := 6) (k := 1) (by simp [sgA]) rfl rfl (by simp) hd hN hl, num_at (b := 4) (m := 6) (k := 0) (by simp [sgA]) rfl rfl (by simp) hd hN hl⟩
  · have hs : signS (60 :: c :: r) = [60] := by
      unfold signS
      split <;> simp_all
    show (if signS (60 :: c :: r) = [] then _ else Except.ok ((⟨4, 4, 0, signS (60 :: c :: r)⟩ : Pc), 4 + (signS (60 :: c :: r)).length) : Except Er (Pc × Nat)) = _
    rw [hs]; rfl
  · have hs : signS (62 :: c :: r) = [62] := by
      unfold signS
      split <;> simp_all
    show (if signS (62 :: c :: r) = [] then _ else Except.ok ((⟨4, 5, 0, signS (62 :: c :: r)⟩ : Pc), 5 + (signS (62 :: c :: r)).length) : Except Er (Pc × Nat)) = _
    rw [hs]; rfl
end CM
end Go.Proofs.Ytlaafamodaogmaa
