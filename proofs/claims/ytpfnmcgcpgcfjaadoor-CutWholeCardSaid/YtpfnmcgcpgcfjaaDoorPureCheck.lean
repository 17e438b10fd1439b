/- Plain Lean, no program in sight: which data are right, and what is wrong with others. -/
import Derived.Test.YtpfnmcgcpgcfjaaDoorPureSpans
namespace Tess
def minO : Option Nat → Option Nat → Option Nat
  | some a, some b => some (min a b)
  | some a, none => some a
  | none, b => b
abbrev Wr := Nat × Nat × Nat
def blankBad (a b c : Sp) : Bool := !inL c 32 || inL a 39 || inL b 39 || inL c 39
/-- Chapter 4: why, the list, the row; (0, 0, 0): nothing is wrong. -/
def check4 (a b c : Sp) : Wr :=
  if 512 < a.length then (4, 1, 512) else if 512 < b.length then (4, 2, 512) else if 512 < c.length then (4, 3, 512)
  else if (rightL a).2 ≠ 0 then ((rightL a).2, 1, (rightL a).1) else if (rightL b).2 ≠ 0 then ((rightL b).2, 2, (rightL b).1) else if (rightL c).2 ≠ 0 then ((rightL c).2, 3, (rightL c).1)
  else match meetL b a with
  | some k => (16, 2, k)
  | none => match minO (meetL c a) (meetL c b) with
    | some k => (16, 3, k)
    | none => if blankBad a b c = true then (20, 3, 0) else (0, 0, 0)
/-- -1: none. -/
def encO : Option Nat → Int
  | none => -1
  | some k => k
end Tess
