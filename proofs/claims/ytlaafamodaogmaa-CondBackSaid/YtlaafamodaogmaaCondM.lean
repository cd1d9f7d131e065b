/-
  The plain law of conditions: pieces, parts, what they hold of; of chapter 27; lists alone, no program in sight.
  Conditions: as each theorem states them.
-/
import Derived.Test.YtlaafamodaogmaaUnqD
import Derived.Test.YtlaafamodaogmaaNum
import Derived.Lib.IndexMore
namespace Go.Proofs.Ytlaafamodaogmaa
set_option linter.unusedVariables false
set_option linter.unusedSimpArgs false
namespace CM
abbrev lineW : List UInt8 := [108, 105, 110, 101]
abbrev pcW : List UInt8 := [112, 99]
abbrev exitW : List UInt8 := [101, 120, 105, 116]
abbrev waitsW : List UInt8 := [119, 97, 105, 116, 115]
abbrev patternW : List UInt8 := [112, 97, 116, 116, 101, 114, 110]
abbrev holdW : List UInt8 := [104, 111, 108, 100]
abbrev restW : List UInt8 := [114, 101, 115, 116]
abbrev outW : List UInt8 := [111, 117, 116]
abbrev substW : List UInt8 := [115, 117, 98, 115, 116]
abbrev silentW : List UInt8 := [115, 105, 108, 101, 110, 116]
abbrev quitW : List UInt8 := [113, 117, 105, 116]
abbrev againW : List UInt8 := [97, 103, 97, 105, 110]
abbrev failedW : List UInt8 := [102, 97, 105, 108, 101, 100]
abbrev beginW : List UInt8 := [98, 101, 103, 105, 110]
abbrev bodyW : List UInt8 := [98, 111, 100, 121]
abbrev endingW : List UInt8 := [101, 110, 100, 105, 110, 103]
abbrev haltedW : List UInt8 := [104, 97, 108, 116, 101, 100]
abbrev orW : List UInt8 := [111, 114]
abbrev andW : List UInt8 := [97, 110, 100]
abbrev notW : List UInt8 := [110, 111, 116]
abbrev isW : List UInt8 := [105, 115]
abbrev hasW : List UInt8 := [104, 97, 115]
abbrev changedW : List UInt8 := [99, 104, 97, 110, 103, 101, 100]
abbrev phaseW : List UInt8 := [112, 104, 97, 115, 101]
/-- what a condition sees of a state -/
structure Sv where
  line : Int
  pc : Int
  exit : Int
  waits : Int
  pattern : List UInt8
  hold : List UInt8
  rest : List UInt8
  out : List UInt8
  subst : Bool
  silent : Bool
  quit : Bool
  again : Bool
  err : Int
  phase : Int
/-- what a condition means -/
abbrev M := Sv → Sv → Bool
/-- a piece: its kind, its place, its number, its text -/
structure Pc where
  kind : Nat
  at_ : Nat
  n : Int
  s : List UInt8
/-- a parser: the piece at which it is, the place behind it, how deep it is -/
structure Ps where
  pc : Pc
  at_ : Nat
  deep : Nat
def numOf (w : List UInt8) : Option (Sv → Int) := if w = lineW then some (·.line) else if w = pcW then some (·.pc) else if w = exitW then some (·.exit) else if w = waitsW then some (·.waits) else none
def txtOf (w : List UInt8) : Option (Sv → List UInt8) := if w = patternW then some (·.pattern) else if w = holdW then some (·.hold) else if w = restW then some (·.rest) else if w = outW then some (·.out) else none
def flagOf (w : List UInt8) : Option (Sv → Bool) := if w = substW then some (·.subst) else if w = silentW then some (·.silent) else if w = quitW then some (·.quit) else if w = againW then some (·.again) else if w = failedW then some (fun s => s.err != 0) else none
def phOf (w : List UInt8) : Option Int := if w = beginW then some 0 else if w = bodyW then some 1 else if w = endingW then some 2 else if w = haltedW then some 3 else none
def isWord (w : List UInt8) : Bool := (numOf w).isSome || (txtOf w).isSome || (flagOf w).isSome || (phOf w).isSome || w == orW || w == andW || w == notW || w == isW || w == hasW || w == changedW || w == phaseW
def low (c : UInt8) : Bool := decide (97 ≤ c.toNat) && decide (c.toNat ≤ 122)
def blank (c : UInt8) : Bool := c == 32
abbrev Er := Nat × Int
/-- the place of the next piece -/
def skip (s : List UInt8) (a : Nat) : Nat := a + ((s.drop a).takeWhile blank).length
/-- the sign at the beginning, if one stands there -/
def signS : List UInt8 → List UInt8
  | 33 :: 61 :: _ => [33, 61]
  | 60 :: 61 :: _ => [60, 61]
  | 62 :: 61 :: _ => [62, 61]
  | 61 :: _ => [61]
  | 60 :: _ => [60]
  | 62 :: _ => [62]
  | _ => []
/-- the piece at a place: what stands there, that place and the piece -/
def pieceS (s : List UInt8) (b : Nat) (t : List UInt8) : Except Er (Pc × Nat) :=
  match t with
  | [] => .ok (⟨0, b, 0, []⟩, b)
  | c :: _ =>
    if low c then let w := t.takeWhile low; if isWord w then .ok (⟨1, b, 0, w⟩, b + w.length) else .error (b, 30)
    else if dig c then let N := numS s b 2147483648; if N.2.2 = 0 then .ok (⟨2, b, N.1, []⟩, N.2.1.toNat) else .error (b, N.2.2)
    else if c = 34 then let U := unquoteS s b; if U.2.2 = 0 then .ok (⟨3, b, 0, U.1⟩, U.2.1.toNat) else .error (b, U.2.2)
    else if c = 40 ∨ c = 41 then .ok (⟨5, b, 0, [c]⟩, b + 1)
    else if signS t = [] then .error (b, 9) else .ok (⟨4, b, 0, signS t⟩, b + (signS t).length)
/-- the next piece -/
def nextS (s : List UInt8) (a : Nat) : Except Er (Pc × Nat) := pieceS s (skip s a) (s.drop (skip s a))
def Ps.next (s : List UInt8) (p : Ps) : Except Er Ps := match nextS s p.at_ with | .error e => .error e | .ok (x, b) => .ok ⟨x, b, p.deep⟩
def Pc.is (x : Pc) (k : Nat) (w : List UInt8) : Bool := x.kind == k && x.s == w
/-- the piece must be of a kind; it is passed over -/
def Ps.take (s : List UInt8) (p : Ps) (k : Nat) : Except Er (Pc × Ps) := if p.pc.kind = k then match p.next s with | .error e => .error e | .ok q => .ok (p.pc, q) else .error (p.pc.at_, 9)
def signOf (w : List UInt8) (x n : Int) : Bool := x == n && (w == [61] || w == [60, 61] || w == [62, 61]) || decide (x < n) && (w == [60] || w == [60, 61] || w == [33, 61]) || decide (n < x) && (w == [62] || w == [62, 61] || w == [33, 61])
/-- does a text stand in another one? -/
def hasS (b part : List UInt8) : Bool := decide (0 ≤ Lib.index b part)
/-- what is told of a number -/
def numberS (s : List UInt8) (get : Sv → Int) (p : Ps) : Except Er (M × Ps) :=
  if p.pc.is 1 changedW then match p.next s with | .error e => .error e | .ok q => .ok (fun was now => get was != get now, q)
  else match p.take s 4 with
    | .error e => .error e
    | .ok (x, q) => match q.take s 2 with
      | .error e => .error e
      | .ok (y, r) => .ok (fun _ now => signOf x.s (get now) y.n, r)
/-- what is told of a text -/
def textS (s : List UInt8) (get : Sv → List UInt8) (p : Ps) : Except Er (M × Ps) :=
  if p.pc.is 1 changedW then match p.next s with | .error e => .error e | .ok q => .ok (fun was now => !(get was == get now), q)
  else if p.pc.is 1 hasW then match p.next s with
    | .error e => .error e
    | .ok q => match q.take s 3 with
      | .error e => .error e
      | .ok (y, r) => .ok (fun _ now => hasS (get now) y.s, r)
  else if p.pc.is 1 isW then match p.next s with
    | .error e => .error e
    | .ok q => match q.take s 3 with
      | .error e => .error e
      | .ok (y, r) => .ok (fun _ now => get now == y.s, r)
  else .error (p.pc.at_, 9)
/-- a phase's name -/
def phaseS (s : List UInt8) (p : Ps) : Except Er (M × Ps) :=
  if p.pc.kind = 1 then match phOf p.pc.s with
    | none => .error (p.pc.at_, 9)
    | some n => match p.next s with | .error e => .error e | .ok q => .ok (fun _ now => now.phase == n, q)
  else .error (p.pc.at_, 9)
/-- a part that is none of not and ( -/
def atomS (s : List UInt8) (p : Ps) : Except Er (M × Ps) :=
  if p.pc.kind = 1 then
    match flagOf p.pc.s, numOf p.pc.s, txtOf p.pc.s with
    | some f, _, _ => match p.next s with | .error e => .error e | .ok q => .ok (fun _ now => f now, q)
    | none, some f, _ => match p.next s with | .error e => .error e | .ok q => numberS s f q
    | none, none, some f => match p.next s with | .error e => .error e | .ok q => textS s f q
    | none, none, none => if p.pc.s = phaseW then match p.next s with | .error e => .error e | .ok q => phaseS s q else .error (p.pc.at_, 9)
  else .error (p.pc.at_, 9)
/-- one deeper -/
def deeperS (s : List UInt8) (p : Ps) : Except Er Ps := if p.deep = 20 then .error (p.pc.at_, 7) else Ps.next s ⟨p.pc, p.at_, p.deep + 1⟩
inductive Md
  | part
  | both
  | bothL (h : M)
  | either
  | eitherL (h : M)
/-- a part, a conjunction (its rest), a disjunction (its rest) -/
def run (s : List UInt8) : Nat → Md → Ps → Except Er (M × Ps)
  | 0, _, _ => .error (0, 99)
  | n + 1, .part, p =>
    if p.pc.is 1 notW then match deeperS s p with
      | .error e => .error e
      | .ok q => match run s n .part q with
        | .error e => .error e
        | .ok (h, r) => .ok (fun was now => !h was now, ⟨r.pc, r.at_, r.deep - 1⟩)
    else if p.pc.is 5 [40] then match deeperS s p with
      | .error e => .error e
      | .ok q => match run s n .either q with
        | .error e => .error e
        | .ok (h, r) => if r.pc.is 5 [41] then match Ps.next s ⟨r.pc, r.at_, r.deep - 1⟩ with
            | .error e => .error e
            | .ok t => .ok (h, t)
          else .error (r.pc.at_, 9)
    else atomS s p
  | n + 1, .both, p => match run s n .part p with
    | .error e => .error e
    | .ok (h, q) => run s n (.bothL h) q
  | n + 1, .bothL h, p =>
    if p.pc.is 1 andW then match p.next s with
      | .error e => .error e
      | .ok q => match run s n .part q with
        | .error e => .error e
        | .ok (b, r) => run s n (.bothL (fun was now => h was now && b was now)) r
    else .ok (h, p)
  | n + 1, .either, p => match run s n .both p with
    | .error e => .error e
    | .ok (h, q) => run s n (.eitherL h) q
  | n + 1, .eitherL h, p =>
    if p.pc.is 1 orW then match p.next s with
      | .error e => .error e
      | .ok q => match run s n .both q with
        | .error e => .error e
        | .ok (b, r) => run s n (.eitherL (fun was now => h was now || b was now)) r
    else .ok (h, p)
/-- how much is left -/
def mu (s : List UInt8) (p : Ps) : Nat := (s.length - p.at_) + (if p.pc.kind = 0 then 0 else 1)
def fuel (s : List UInt8) : Nat := 3 * s.length + 6
/-- a whole condition -/
def parseS (s : List UInt8) : Except Er M :=
  if 4096 < s.length then .error (0, 8) else
  match nextS s 0 with
  | .error e => .error e
  | .ok (x, b) => match run s (fuel s) .either ⟨x, b, 0⟩ with
    | .error e => .error e
    | .ok (h, r) => if r.pc.kind = 0 then .ok h else .error (r.pc.at_, 9)
end CM
end Go.Proofs.Ytlaafamodaogmaa
