/- Plain Lean, no program in sight: items, kinds, pre-tokens. -/
import Derived.Test.YtpfnmcgcpgcfjaaDoorPureUtf
namespace Tess
/-- What stands at a place: how many bytes, the rune, whether it is none. -/
structure It where
  n : Nat
  r : Nat
  bad : Bool
  deriving DecidableEq, Repr
def item (l : List UInt8) : It := ⟨(dec l).2, (dec l).1, (dec l).1 == 0xFFFD && (dec l).2 == 1⟩
def itemsF : Nat → List UInt8 → List It
  | 0, _ => []
  | f + 1, l => if l = [] then [] else item l :: itemsF f (l.drop (item l).n)
/-- A text's items. -/
def items (l : List UInt8) : List It := itemsF l.length l
theorem item_pos (l : List UInt8) : 1 ≤ (item l).n := dec_pos l
theorem item_le (l : List UInt8) (h : l ≠ []) : (item l).n ≤ l.length := dec_le l h
theorem itemsF_enough : ∀ (f : Nat) (l : List UInt8), l.length ≤ f → itemsF f l = itemsF l.length l := by
  intro f
  induction f using Nat.strongRecOn with
  | _ f ih =>
    intro l h
    cases l with
    | nil => cases f <;> simp [itemsF]
    | cons a t =>
      obtain ⟨f, rfl⟩ : ∃ k, f = k + 1 := ⟨f - 1, by simp at h; omega⟩
      have hp := item_pos (a :: t)
      show itemsF (f + 1) (a :: t) = itemsF (t.length + 1) (a :: t)
      simp only [itemsF, reduceCtorEq, if_false]
      congr 1
      have hl : ((a :: t).drop (item (a :: t)).n).length ≤ t.length := by simp; omega
      rw [ih f (by omega) _ (by simp at h; omega)]
      rw [ih t.length (by simp at h; omega) _ hl]
theorem items_nil : items [] = [] := rfl
theorem items_cons (l : List UInt8) (h : l ≠ []) : items l = item l :: items (l.drop (item l).n) := by
  cases l with
  | nil => exact absurd rfl h
  | cons a t =>
    unfold items
    show itemsF (t.length + 1) (a :: t) = _
    simp only [itemsF, reduceCtorEq, if_false]
    congr 1
    have hp := item_pos (a :: t)
    exact itemsF_enough _ _ (by simp; omega)
def sizes (l : List It) : Nat := (l.map (·.n)).sum
theorem sizes_nil : sizes [] = 0 := rfl
theorem sizes_cons (x : It) (l : List It) : sizes (x :: l) = x.n + sizes l := rfl
theorem sizes_append (a b : List It) : sizes (a ++ b) = sizes a + sizes b := by simp [sizes]
theorem items_sizes (l : List UInt8) : sizes (items l) = l.length := by
  induction h : l.length using Nat.strongRecOn generalizing l with
  | _ m ih =>
    by_cases e : l = []
    · subst e; subst h; rfl
    · have hp := item_pos l
      have hl := item_le l e
      rw [items_cons l e, sizes_cons, ih (l.drop (item l).n).length (by simp; omega) _ rfl]
      simp; omega
theorem item_take (l : List UInt8) (m : Nat) (h : (item l).n ≤ m) : item (l.take m) = item l := by
  unfold item at *
  rw [dec_take l m h]
/-- Cut where an item ends: the items part. -/
theorem items_part (l : List UInt8) (ys zs : List It) (h : items l = ys ++ zs) : items (l.take (sizes ys)) = ys ∧ items (l.drop (sizes ys)) = zs := by
  induction ys generalizing l with
  | nil => simp [sizes, items_nil]; simpa using h
  | cons y ys ih =>
    have e : l ≠ [] := by intro e; subst e; simp [items_nil] at h
    rw [items_cons l e] at h
    simp only [List.cons_append, List.cons.injEq] at h
    obtain ⟨h1, h2⟩ := h
    obtain ⟨a, b⟩ := ih _ h2
    have hp := item_pos l
    have hl := item_le l e
    rw [sizes_cons, ← h1]
    constructor
    · have e2 : l.take ((item l).n + sizes ys) ≠ [] := by
        intro k
        have := congrArg List.length k
        rw [List.length_take, List.length_nil] at this
        have := List.length_pos_iff.2 e
        omega
      rw [items_cons _ e2, item_take l _ (by omega)]
      congr 1
      rw [List.drop_take, show (item l).n + sizes ys - (item l).n = sizes ys from by omega]
      exact a
    · rw [← List.drop_drop]
      exact b
/-- A place where an item ends, or the beginning. -/
def Bd (l : List UInt8) (m : Nat) : Prop := ∃ ys zs, items l = ys ++ zs ∧ sizes ys = m
theorem Bd.zero (l : List UInt8) : Bd l 0 := ⟨[], items l, rfl, rfl⟩
theorem Bd.whole (l : List UInt8) : Bd l l.length := ⟨items l, [], by simp, items_sizes l⟩
theorem Bd.le {l : List UInt8} {m : Nat} (h : Bd l m) : m ≤ l.length := by
  obtain ⟨ys, zs, h, rfl⟩ := h
  rw [← items_sizes l, h, sizes_append]
  omega
theorem Bd.step {l : List UInt8} {m k : Nat} (h : Bd l m) (h' : Bd (l.drop m) k) : Bd l (m + k) := by
  obtain ⟨ys, zs, h, rfl⟩ := h
  obtain ⟨us, vs, h', rfl⟩ := h'
  rw [(items_part l ys zs h).2] at h'
  exact ⟨ys ++ us, vs, by rw [h, h', List.append_assoc], sizes_append ys us⟩

/-! ### Kinds -/
structure Dat where
  words : List ByteArray
  merges : List (Int × Int × Int)
  letters : List (Int × Int)
  numbers : List (Int × Int)
  spaces : List (Int × Int)
  deriving DecidableEq
def isRune (r : Int) : Bool := (decide (0 ≤ r) && decide (r < 0xD800)) || (decide (0xE000 ≤ r) && decide (r ≤ 0x10FFFF))
def inL (l : List (Int × Int)) (r : Int) : Bool := (l.any fun x => decide (x.1 ≤ r) && decide (r ≤ x.2)) && isRune r
def kindOf (d : Dat) (r : Int) : Nat := if inL d.letters r then 1 else if inL d.numbers r then 2 else if inL d.spaces r then 3 else 4
def kind (d : Dat) (x : It) : Nat := if x.bad then 4 else kindOf d x.r
theorem kindOf_range (d : Dat) (r : Int) : 1 ≤ kindOf d r ∧ kindOf d r ≤ 4 := by unfold kindOf; (repeat' split) <;> omega
theorem kind_range (d : Dat) (x : It) : 1 ≤ kind d x ∧ kind d x ≤ 4 := by
  unfold kind; split
  · omega
  · exact kindOf_range _ _

/-! ### Pre-tokens -/
/-- The bytes ahead: "'s", "'t", "'m", "'d", "'re", "'ve", "'ll". -/
def shorts : List (List UInt8) := [[39, 115], [39, 116], [39, 109], [39, 100], [39, 114, 101], [39, 118, 101], [39, 108, 108]]
def short (l : List UInt8) : Nat := match shorts.find? (fun w => w.isPrefixOf l) with | some w => w.length | none => 0
def sortOf (k : Nat) : Nat := if k = 1 then 2 else if k = 2 then 3 else 4
/-- The items of the first one's kind. -/
def runIts (d : Dat) (l : List It) : List It := match l with | [] => [] | x :: _ => l.takeWhile fun y => kind d y == kind d x
def lastN (l : List It) : Nat := match l.getLast? with | some x => x.n | none => 0
def headK (d : Dat) (l : List It) : Nat := match l with | [] => 0 | x :: _ => kind d x
def run (d : Dat) (l : List UInt8) : Nat × Nat × Nat := (sizes (runIts d (items l)), lastN (runIts d (items l)), headK d (items l))
def next (d : Dat) (l : List UInt8) : Nat × Nat :=
  if 0 < short l then (short l, 1) else
  if (run d l).2.2 ≠ 3 then ((run d l).1, sortOf (run d l).2.2) else
  if byteN l 0 = 32 ∧ (run d l).1 = 1 ∧ 1 < l.length then (1 + (run d (l.drop 1)).1, sortOf (run d (l.drop 1)).2.2) else
  if (run d l).1 < l.length ∧ (run d l).2.1 < (run d l).1 then ((run d l).1 - (run d l).2.1, 5) else
  ((run d l).1, 5)
structure Tok where
  a : Nat
  b : Nat
  s : Nat
  deriving DecidableEq, Repr
def tokF (d : Dat) : Nat → Nat → List UInt8 → List Tok
  | 0, _, _ => []
  | f + 1, at_, l => if l = [] then [] else ⟨at_, at_ + (next d l).1, (next d l).2⟩ :: tokF d f (at_ + (next d l).1) (l.drop (next d l).1)
/-- A text's pre-tokens. -/
def tokens (d : Dat) (l : List UInt8) : List Tok := tokF d l.length 0 l
end Tess
