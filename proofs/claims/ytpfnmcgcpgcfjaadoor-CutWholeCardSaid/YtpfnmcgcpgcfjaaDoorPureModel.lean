/- Plain Lean, no program in sight: chapter 5: words, merges, which models are right. -/
import Derived.Test.YtpfnmcgcpgcfjaaDoorPureCheck
namespace Tess
abbrev Mg := Int × Int × Int
def wAt (ws : List ByteArray) (i : Nat) : ByteArray := ws.getD i ByteArray.empty
def mL (ms : List Mg) (i : Nat) : Int := (ms.getD i (0, 0, 0)).1
def mR (ms : List Mg) (i : Nat) : Int := (ms.getD i (0, 0, 0)).2.1
def mI (ms : List Mg) (i : Nat) : Int := (ms.getD i (0, 0, 0)).2.2
/-- What is wrong with a word. -/
def wordBad (ws : List ByteArray) (i : Nat) : Nat :=
  if (wAt ws i).size < 2 ∨ 256 < (wAt ws i).size then 21 else if (firstOf (fun j => decide (wAt ws j = wAt ws i)) i).isSome = true then 22 else 0
def wordsL (ws : List ByteArray) : Wr := match firstOf (fun i => wordBad ws i != 0) ws.length with | some i => (wordBad ws i, 4, i) | none => (0, 0, 0)
/-- Is an id a byte's, or made by one of the first n merges? -/
def madeB (ms : List Mg) (n : Nat) (id : Int) : Bool := (decide (0 ≤ id) && decide (id < 256)) || (decide (256 ≤ id) && (firstOf (fun j => mI ms j == id) n).isSome)
/-- An id's word. -/
def wordOf (ws : List ByteArray) (id : Int) : Option ByteArray :=
  if 0 ≤ id ∧ id < 256 then some ⟨#[UInt8.ofNat id.toNat]⟩ else if 256 ≤ id ∧ id - 256 < ws.length then some (wAt ws (id - 256).toNat) else none
def wordD (ws : List ByteArray) (id : Int) : ByteArray := (wordOf ws id).getD ByteArray.empty
/-- What is wrong with a merge. -/
def mergeBad (ws : List ByteArray) (ms : List Mg) (i : Nat) : Nat :=
  if mI ms i < 256 ∨ (ws.length : Int) ≤ mI ms i - 256 ∨ madeB ms i (mI ms i) = true then 24
  else if madeB ms i (mL ms i) = false ∨ madeB ms i (mR ms i) = false then 23
  else if wAt ws (mI ms i - 256).toNat ≠ wordD ws (mL ms i) ++ wordD ws (mR ms i) then 25
  else if (firstOf (fun j => mL ms j == mL ms i && mR ms j == mR ms i) i).isSome = true then 22 else 0
def mergesL (ws : List ByteArray) (ms : List Mg) : Wr := match firstOf (fun i => mergeBad ws ms i != 0) ms.length with | some i => (mergeBad ws ms i, 5, i) | none => (0, 0, 0)
/-- Chapter 5: why, the list, the row; (0, 0, 0): nothing is wrong. -/
def check5 (d : Dat) : Wr :=
  if 4096 < d.merges.length then (4, 5, 4096) else if d.words.length ≠ d.merges.length then (4, 4, min d.words.length d.merges.length)
  else if (check4 d.letters d.numbers d.spaces).1 ≠ 0 then check4 d.letters d.numbers d.spaces
  else if (wordsL d.words).1 ≠ 0 then wordsL d.words else mergesL d.words d.merges
theorem firstL_bad {p : Nat → Nat} {n i l : Nat} (hi : i < n) (hb : p i ≠ 0) (h : ∀ j, j < i → p j = 0) : (match firstOf (fun i => p i != 0) n with | some i => ((p i, l, i) : Wr) | none => (0, 0, 0)) = (p i, l, i) := by
  rw [firstOf_some hi (by simpa using hb) fun j hj => by simpa using h j hj]
theorem firstL_good {p : Nat → Nat} {n l : Nat} (h : ∀ j, j < n → p j = 0) : (match firstOf (fun i => p i != 0) n with | some i => ((p i, l, i) : Wr) | none => (0, 0, 0)) = (0, 0, 0) := by
  rw [firstOf_none fun j hj => by simpa using h j hj]
end Tess
