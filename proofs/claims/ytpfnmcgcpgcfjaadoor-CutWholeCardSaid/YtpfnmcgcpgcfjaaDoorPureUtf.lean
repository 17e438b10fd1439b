/- Plain Lean, no program in sight: runes and items of a text, as a list of bytes. -/
import GoSem.Core.Utf8
namespace Tess
/-- The byte at a place, 0 behind the end. -/
def byteN (l : List UInt8) (k : Nat) : Nat := (l.getD k 0).toNat
def contN (l : List UInt8) (k : Nat) : Bool := decide (k < l.length) && byteN l k / 64 == 2
/-- The rune of four bytes; which of them go on. -/
def decC (a b c d : Nat) (p q r : Bool) : Nat × Nat :=
  if a < 0x80 then (a, 1)
  else if a / 32 == 6 && p then
    if (a % 32) * 64 + b % 64 ≥ 0x80 then ((a % 32) * 64 + b % 64, 2) else (0xFFFD, 1)
  else if a / 16 == 14 && p && q then
    if (a % 16) * 4096 + (b % 64) * 64 + c % 64 ≥ 0x800 && Go.Utf8.valid ((a % 16) * 4096 + (b % 64) * 64 + c % 64 : Nat)
    then ((a % 16) * 4096 + (b % 64) * 64 + c % 64, 3) else (0xFFFD, 1)
  else if a / 8 == 30 && p && q && r then
    if (a % 8) * 262144 + (b % 64) * 4096 + (c % 64) * 64 + d % 64 ≥ 0x10000 && Go.Utf8.valid ((a % 8) * 262144 + (b % 64) * 4096 + (c % 64) * 64 + d % 64 : Nat)
    then ((a % 8) * 262144 + (b % 64) * 4096 + (c % 64) * 64 + d % 64, 4) else (0xFFFD, 1)
  else (0xFFFD, 1)
/-- The rune at a text's beginning, and how many bytes it has. -/
def dec (l : List UInt8) : Nat × Nat := decC (byteN l 0) (byteN l 1) (byteN l 2) (byteN l 3) (contN l 1) (contN l 2) (contN l 3)

theorem get_byteN (s : ByteArray) (k : Nat) : (s.get! k).toNat = byteN s.data.toList k := by
  obtain ⟨bs⟩ := s
  show (bs[k]!).toNat = _
  unfold byteN
  rw [List.getD_eq_getElem?_getD, Array.getElem?_toList, getElem!_def]
  cases bs[k]? <;> rfl

theorem decode_dec (s : ByteArray) : Go.Utf8.decode s 0 = dec s.data.toList := by
  unfold Go.Utf8.decode dec decC contN
  simp only [Nat.zero_add, get_byteN, Array.length_toList, ByteArray.size, Go.Utf8.runeError]

theorem dec_pos (l : List UInt8) : 1 ≤ (dec l).2 := by
  unfold dec decC
  repeat' split
  all_goals simp
theorem contN_lt {l : List UInt8} {k : Nat} (h : contN l k = true) : k < l.length := by
  unfold contN at h
  simp at h
  exact h.1
theorem dec_le (l : List UInt8) (h : l ≠ []) : (dec l).2 ≤ l.length := by
  have h0 : 0 < l.length := List.length_pos_iff.2 h
  unfold dec decC
  repeat' split
  all_goals simp_all
  all_goals (first | omega | (have := contN_lt (l := l) (k := 1) (by simp_all); omega) | (have := contN_lt (l := l) (k := 2) (by simp_all); omega) | (have := contN_lt (l := l) (k := 3) (by simp_all); omega))
theorem dec_le4 (l : List UInt8) : (dec l).2 ≤ 4 := by
  unfold dec decC
  repeat' split
  all_goals simp
theorem dec_rune (l : List UInt8) : (dec l).1 ≤ 0x10FFFF := by
  unfold dec decC
  repeat' split
  all_goals simp_all [Go.Utf8.valid]
  all_goals omega
theorem byteN_take (l : List UInt8) (m k : Nat) (h : k < m) : byteN (l.take m) k = byteN l k := by
  unfold byteN
  simp [List.getD_eq_getElem?_getD, h]
theorem contN_take (l : List UInt8) (m k : Nat) (h : k < m) : contN (l.take m) k = contN l k := by
  unfold contN
  rw [byteN_take l m k h, List.length_take]
  congr 1
  simp; omega
theorem contN_take_ge (l : List UInt8) (m k : Nat) (h : m ≤ k) : contN (l.take m) k = false := by
  unfold contN
  rw [List.length_take]
  have : ¬ (k < min m l.length) := by omega
  simp [this]
theorem decC_1 (a b c d b' c' d' : Nat) (p q r q' r' : Bool) (h : (decC a b c d p q r).2 ≤ 1) : decC a b' c' d' false q' r' = decC a b c d p q r := by
  unfold decC at h ⊢
  cases p <;> cases q <;> cases r <;> simp only [Bool.and_true, Bool.and_false, Bool.false_and, Bool.false_eq_true, if_false] at h ⊢ <;> (repeat' split at h) <;> (repeat' split) <;> first | rfl | (simp_all; done) | omega
theorem decC_2 (a b c d c' d' : Nat) (p q r r' : Bool) (h : (decC a b c d p q r).2 ≤ 2) : decC a b c' d' p false r' = decC a b c d p q r := by
  unfold decC at h ⊢
  cases p <;> cases q <;> cases r <;> simp only [Bool.and_true, Bool.and_false, Bool.false_and, Bool.false_eq_true, if_false] at h ⊢ <;> (repeat' split at h) <;> (repeat' split) <;> first | rfl | (simp_all; done) | omega
theorem decC_3 (a b c d d' : Nat) (p q r : Bool) (h : (decC a b c d p q r).2 ≤ 3) : decC a b c d' p q false = decC a b c d p q r := by
  unfold decC at h ⊢
  cases p <;> cases q <;> cases r <;> simp only [Bool.and_true, Bool.and_false, Bool.false_eq_true, if_false] at h ⊢ <;> (repeat' split at h) <;> (repeat' split) <;> first | rfl | (simp_all; done) | omega
theorem dec_take (l : List UInt8) (m : Nat) (h : (dec l).2 ≤ m) : dec (l.take m) = dec l := by
  have h1 := dec_pos l
  obtain ⟨m, rfl⟩ : ∃ k, m = k + 1 := ⟨m - 1, by omega⟩
  have b0 := byteN_take l (m+1) 0 (by omega)
  unfold dec at h ⊢
  rw [b0]
  rcases m with _ | _ | _ | m
  · rw [contN_take_ge l _ 1 (by omega)]
    exact decC_1 _ _ _ _ _ _ _ _ _ _ _ _ h
  · rw [contN_take l _ 1 (by omega), contN_take_ge l _ 2 (by omega), byteN_take l _ 1 (by omega)]
    exact decC_2 _ _ _ _ _ _ _ _ _ _ h
  · rw [contN_take l _ 1 (by omega), contN_take l _ 2 (by omega), contN_take_ge l _ 3 (by omega), byteN_take l _ 1 (by omega), byteN_take l _ 2 (by omega)]
    exact decC_3 _ _ _ _ _ _ _ _ h
  · rw [contN_take l _ 1 (by omega), contN_take l _ 2 (by omega), contN_take l _ 3 (by omega), byteN_take l _ 1 (by omega), byteN_take l _ 2 (by omega), byteN_take l _ 3 (by omega)]
end Tess
