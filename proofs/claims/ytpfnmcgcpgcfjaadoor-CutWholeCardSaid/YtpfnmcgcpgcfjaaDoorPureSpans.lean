/- Plain Lean, no program in sight: lists of spans: which are right, which meet, where a rune lies. -/
import Derived.Test.YtpfnmcgcpgcfjaaDoorPureCut
namespace Tess
abbrev Sp := List (Int × Int)
def loAt (l : Sp) (i : Nat) : Int := (l.getD i (0, 0)).1
def hiAt (l : Sp) (i : Nat) : Int := (l.getD i (0, 0)).2
/-- What is wrong with a row; 0: nothing. -/
def badAt (l : Sp) (i : Nat) : Nat :=
  if (!isRune (loAt l i) || !isRune (hiAt l i)) = true then 14
  else if hiAt l i < loAt l i ∨ (0 < i ∧ loAt l i ≤ hiAt l (i - 1)) then 15 else 0
/-- The first of n things that is so. -/
def firstFrom (p : Nat → Bool) : Nat → Nat → Option Nat
  | 0, _ => none
  | k + 1, i => if p i then some i else firstFrom p k (i + 1)
def firstOf (p : Nat → Bool) (n : Nat) : Option Nat := firstFrom p n 0
theorem firstFrom_none {p : Nat → Bool} : ∀ {n i : Nat}, (∀ j, i ≤ j → j < i + n → p j = false) → firstFrom p n i = none
  | 0, _, _ => rfl
  | n + 1, i, h => by
    simp only [firstFrom]
    rw [if_neg (by rw [h i (by omega) (by omega)]; simp)]
    exact firstFrom_none fun j h1 h2 => h j (by omega) (by omega)
theorem firstFrom_some {p : Nat → Bool} : ∀ {n i k : Nat}, i ≤ k → k < i + n → p k = true → (∀ j, i ≤ j → j < k → p j = false) → firstFrom p n i = some k
  | 0, _, _, h1, h2, _, _ => by omega
  | n + 1, i, k, h1, h2, hp, h => by
    simp only [firstFrom]
    by_cases e : i = k
    · subst e; rw [if_pos hp]
    · rw [if_neg (by rw [h i (by omega) (by omega)]; simp)]
      exact firstFrom_some (by omega) (by omega) hp fun j h1 h2 => h j (by omega) (by omega)
theorem firstOf_none {p : Nat → Bool} {n : Nat} (h : ∀ j, j < n → p j = false) : firstOf p n = none := firstFrom_none fun j _ hj => h j (by omega)
theorem firstOf_some {p : Nat → Bool} {n k : Nat} (h2 : k < n) (hp : p k = true) (h : ∀ j, j < k → p j = false) : firstOf p n = some k := firstFrom_some (by omega) (by omega) hp fun j _ hj => h j hj
theorem firstFrom_inv {p : Nat → Bool} : ∀ {n i k : Nat}, firstFrom p n i = some k → i ≤ k ∧ k < i + n ∧ p k = true ∧ ∀ j, i ≤ j → j < k → p j = false
  | 0, _, _, h => by simp [firstFrom] at h
  | n + 1, i, k, h => by
    simp only [firstFrom] at h
    split at h
    · cases h; exact ⟨by omega, by omega, by assumption, fun j _ _ => by omega⟩
    · rename_i hn
      obtain ⟨a, b, c, d⟩ := firstFrom_inv h
      refine ⟨by omega, by omega, c, fun j h1 h2 => ?_⟩
      by_cases e : j = i
      · subst e; simpa using hn
      · exact d j (by omega) h2
theorem firstOf_inv {p : Nat → Bool} {n k : Nat} (h : firstOf p n = some k) : k < n ∧ p k = true ∧ ∀ j, j < k → p j = false := by
  obtain ⟨_, b, c, d⟩ := firstFrom_inv h
  exact ⟨by omega, c, fun j hj => d j (by omega) hj⟩
theorem firstFrom_inv_none {p : Nat → Bool} : ∀ {n i : Nat}, firstFrom p n i = none → ∀ j, i ≤ j → j < i + n → p j = false
  | 0, _, _, j, h1, h2 => by omega
  | n + 1, i, h, j, h1, h2 => by
    simp only [firstFrom] at h
    split at h
    · cases h
    · rename_i hn
      by_cases e : j = i
      · subst e; simpa using hn
      · exact firstFrom_inv_none h j (by omega) (by omega)
theorem firstOf_inv_none {p : Nat → Bool} {n : Nat} (h : firstOf p n = none) : ∀ j, j < n → p j = false := fun j hj => firstFrom_inv_none h j (by omega) (by omega)
/-- The first wrong row and why; (0, 0): none. -/
def rightL (l : Sp) : Nat × Nat := match firstOf (fun i => badAt l i != 0) l.length with | some i => (i, badAt l i) | none => (0, 0)
theorem rightL_bad {l : Sp} {i : Nat} (hi : i < l.length) (hb : badAt l i ≠ 0) (h : ∀ j, j < i → badAt l j = 0) : rightL l = (i, badAt l i) := by
  unfold rightL
  rw [firstOf_some hi (by simpa using hb) (fun j hj => by simpa using h j hj)]
theorem rightL_good {l : Sp} (h : ∀ j, j < l.length → badAt l j = 0) : rightL l = (0, 0) := by
  unfold rightL
  rw [firstOf_none (fun j hj => by simpa using h j hj)]
/-- All rows are right. -/
def RightL (l : Sp) : Prop := ∀ i, i < l.length → badAt l i = 0
theorem rightL_zero {l : Sp} (h : (rightL l).2 = 0) : RightL l := by
  unfold rightL at h
  split at h
  · rename_i i hi
    obtain ⟨_, hp, _⟩ := firstOf_inv hi
    simp at hp h
    exact absurd h hp
  · rename_i hn
    intro i hi
    simpa using firstOf_inv_none hn i hi
theorem badAt_zero {l : Sp} {i : Nat} (h : badAt l i = 0) : isRune (loAt l i) = true ∧ isRune (hiAt l i) = true ∧ loAt l i ≤ hiAt l i ∧ (0 < i → hiAt l (i - 1) < loAt l i) := by
  unfold badAt at h
  split at h
  · simp at h
  · rename_i h1
    simp at h1
    split at h
    · simp at h
    · rename_i h2
      exact ⟨h1.1, h1.2, by omega, by omega⟩
theorem RightL.lt {l : Sp} (h : RightL l) {i j : Nat} (hij : i < j) (hj : j < l.length) : hiAt l i < loAt l j := by
  induction j with
  | zero => omega
  | succ j ih =>
    obtain ⟨_, _, h3, h4⟩ := badAt_zero (h (j + 1) hj)
    by_cases e : i = j
    · subst e; exact h4 (by omega)
    · have := ih (by omega) (by omega)
      obtain ⟨_, _, h5, _⟩ := badAt_zero (h j (by omega))
      have := h4 (by omega)
      simp only [Nat.add_sub_cancel] at this
      omega
theorem RightL.hi_mono {l : Sp} (h : RightL l) {i j : Nat} (hij : i ≤ j) (hj : j < l.length) : hiAt l i ≤ hiAt l j := by
  by_cases e : i = j
  · subst e; omega
  · have := h.lt (by omega : i < j) hj
    obtain ⟨_, _, h5, _⟩ := badAt_zero (h j hj)
    omega
theorem getD_lo (l : Sp) (i : Nat) (h : i < l.length) : l[i].1 = loAt l i := by simp [loAt, h]
theorem getD_hi (l : Sp) (i : Nat) (h : i < l.length) : l[i].2 = hiAt l i := by simp [hiAt, h]
theorem inL_iff (l : Sp) (r : Int) : inL l r = true ↔ (∃ i, i < l.length ∧ loAt l i ≤ r ∧ r ≤ hiAt l i) ∧ isRune r = true := by
  unfold inL
  simp only [Bool.and_eq_true, List.any_eq_true, decide_eq_true_eq]
  constructor
  · rintro ⟨⟨x, hx, h1, h2⟩, h3⟩
    obtain ⟨i, hi, rfl⟩ := List.mem_iff_getElem.1 hx
    exact ⟨⟨i, hi, by rw [← getD_lo l i hi]; exact h1, by rw [← getD_hi l i hi]; exact h2⟩, h3⟩
  · rintro ⟨⟨i, hi, h1, h2⟩, h3⟩
    exact ⟨⟨l[i], List.getElem_mem hi, by rw [getD_lo l i hi]; exact h1, by rw [getD_hi l i hi]; exact h2⟩, h3⟩
/-- What find answers: the first place whose span doesn't lie below. -/
def FindAt (l : Sp) (r : Int) (i : Nat) : Prop := i ≤ l.length ∧ (0 < i → hiAt l (i - 1) < r) ∧ (i < l.length → r ≤ hiAt l i)
theorem inL_find {l : Sp} {r : Int} {i : Nat} (h : RightL l) (hf : FindAt l r i) : inL l r = (isRune r && (decide (i < l.length) && decide (loAt l i ≤ r))) := by
  obtain ⟨h1, h2, h3⟩ := hf
  rw [Bool.eq_iff_iff, inL_iff]
  simp only [Bool.and_eq_true, decide_eq_true_eq]
  constructor
  · rintro ⟨⟨k, hk, a, b⟩, c⟩
    have hki : k = i := by
      by_cases e : k < i
      · have := h.hi_mono (show k ≤ i - 1 by omega) (by omega)
        have := h2 (by omega)
        omega
      · by_cases e2 : i < k
        · have := h.lt e2 hk
          have := h3 (by omega)
          omega
        · omega
    subst hki
    exact ⟨c, hk, a⟩
  · rintro ⟨c, hi, a⟩
    exact ⟨⟨i, hi, a, h3 hi⟩, c⟩
/-- Do two rows meet? -/
def meetAt (a b : Sp) (i : Nat) : Bool := (List.range b.length).any fun j => decide (loAt b j ≤ hiAt a i) && decide (loAt a i ≤ hiAt b j)
/-- The first row of a that meets b. -/
def meetL (a b : Sp) : Option Nat := firstOf (meetAt a b) a.length
theorem meetAt_iff (a b : Sp) (i : Nat) : meetAt a b i = true ↔ ∃ j, j < b.length ∧ loAt b j ≤ hiAt a i ∧ loAt a i ≤ hiAt b j := by
  unfold meetAt
  simp [List.any_eq_true]
theorem meetAt_find {a b : Sp} {i k : Nat} (hb : RightL b) (hf : FindAt b (loAt a i) k) : meetAt a b i = (decide (k < b.length) && decide (loAt b k ≤ hiAt a i)) := by
  obtain ⟨_, h2, h3⟩ := hf
  rw [Bool.eq_iff_iff, meetAt_iff]
  simp only [Bool.and_eq_true, decide_eq_true_eq]
  constructor
  · rintro ⟨j, hj, x, y⟩
    by_cases e : j < k
    · have := hb.hi_mono (show j ≤ k - 1 by omega) (by omega)
      have := h2 (by omega)
      omega
    · refine ⟨by omega, ?_⟩
      by_cases e2 : k = j
      · subst e2; exact x
      · have := hb.lt (by omega : k < j) hj
        obtain ⟨_, _, h5, _⟩ := badAt_zero (hb k (by omega))
        omega
  · rintro ⟨x, y⟩
    exact ⟨k, x, y, h3 x⟩
/-- How many runes a span has. -/
def sizeOne (lo hi : Int) : Int :=
  if max lo 0 ≤ min hi 0x10FFFF then (min hi 0x10FFFF - max lo 0) + 1 - max 0 (min (min hi 0x10FFFF) 0xdfff - max (max lo 0) 0xd800 + 1) else 0
theorem sizeOne_pos {lo hi : Int} (h : lo ≤ hi) (h1 : isRune lo = true) (h2 : isRune hi = true) : 0 < sizeOne lo hi := by
  unfold isRune at h1 h2
  simp at h1 h2
  unfold sizeOne
  rw [if_pos (by omega)]
  omega
theorem isRune_max {a b : Int} (h1 : isRune a = true) (h2 : isRune b = true) : isRune (max a b) = true := by rcases Int.le_total a b with h | h <;> simp [Int.max_def, *] <;> split <;> assumption
theorem isRune_min {a b : Int} (h1 : isRune a = true) (h2 : isRune b = true) : isRune (min a b) = true := by rcases Int.le_total a b with h | h <;> simp [Int.min_def, *] <;> split <;> assumption
end Tess
