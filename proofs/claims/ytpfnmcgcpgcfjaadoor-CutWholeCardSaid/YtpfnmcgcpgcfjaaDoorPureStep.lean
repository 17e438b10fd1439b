/- Plain Lean, no program in sight: pre-tokens of items; what can be told of them so far. -/
import Derived.Test.YtpfnmcgcpgcfjaaDoorPureWhole
namespace Tess
/-- Is an item this ASCII rune? -/
def isA (x : It) (r : Nat) : Bool := !x.bad && x.r == r
/-- How many items a Short in front has (0: there is none); none: an item is asked for that isn't there. -/
def shortI (l : List It) (e : Bool) : Option Nat :=
  match l with
  | [] => some 0
  | [q] => if isA q 39 && !e then none else some 0
  | [q, a] => if isA q 39 then (if isA a 115 || isA a 116 || isA a 109 || isA a 100 then some 2 else if (isA a 114 || isA a 118 || isA a 108) && !e then none else some 0) else some 0
  | q :: a :: b :: _ => if isA q 39 then (if isA a 115 || isA a 116 || isA a 109 || isA a 100 then some 2 else if isA a 108 && isA b 108 || (isA a 114 || isA a 118) && isA b 101 then some 3 else some 0) else some 0
/-- Does a blank in front stand ahead of a run? -/
def lead (d : Dat) (l : List It) (e : Bool) : Option Nat :=
  match l with
  | [] => some 0
  | [q] => if isA q 32 && !e then none else some 0
  | q :: a :: _ => if isA q 32 && kind d a != 3 then some 1 else some 0
def runN (d : Dat) (l : List It) (j : Nat) : Nat := j + ((l.drop j).takeWhile fun y => kind d y == headK d (l.drop j)).length
def sortAt (k n m : Nat) : Nat × Nat := if k = 1 then (n, 2) else if k = 2 then (n, 3) else if k = 4 then (n, 4) else if n < m ∧ 2 ≤ n then (n - 1, 5) else (n, 5)
/-- How many items the first pre-token has, and its sort; none: an item is asked for that isn't there (e: the text ends behind l). -/
def nextI (d : Dat) (l : List It) (e : Bool) : Option (Nat × Nat) :=
  match shortI l e with
  | none => none
  | some (n + 1) => some (n + 1, 1)
  | some 0 =>
    match lead d l e with
    | none => none
    | some j => if runN d l j == l.length && !e then none else some (sortAt (headK d (l.drop j)) (runN d l j) l.length)
def ofF (d : Dat) : Nat → Nat → List It → Bool → List Tok × List It
  | 0, _, l, _ => ([], l)
  | f + 1, a, l, e => if l = [] then ([], []) else
    match nextI d l e with
    | none => ([], l)
    | some (n, s) => (⟨a, a + sizes (l.take n), s⟩ :: (ofF d f (a + sizes (l.take n)) (l.drop n) e).1, (ofF d f (a + sizes (l.take n)) (l.drop n) e).2)
/-- The pre-tokens that can be told of items, and the items from which on none can. -/
def ofI (d : Dat) (a : Nat) (l : List It) (e : Bool) : List Tok × List It := ofF d l.length a l e

theorem shortI_le {l : List It} {e : Bool} {n : Nat} (h : shortI l e = some n) : n ≤ l.length := by
  rcases l with _ | ⟨q, _ | ⟨a, _ | ⟨b, t⟩⟩⟩ <;> simp only [shortI] at h <;> (repeat' split at h) <;> simp at h <;> simp <;> omega
theorem lead_le {d : Dat} {l : List It} {e : Bool} {j : Nat} (hl : l ≠ []) (h : lead d l e = some j) : j ≤ 1 ∧ l.drop j ≠ [] := by
  rcases l with _ | ⟨q, _ | ⟨a, t⟩⟩
  · exact absurd rfl hl
  · simp only [lead] at h; split at h
    · simp at h
    · simp at h; subst h; simp
  · simp only [lead] at h; split at h <;> simp at h <;> subst h <;> simp
theorem headK_tw {d : Dat} {l : List It} (h : l ≠ []) : 1 ≤ (l.takeWhile fun y => kind d y == headK d l).length := by
  cases l with
  | nil => exact absurd rfl h
  | cons x t => simp [headK]
theorem length_tw (p : It → Bool) (l : List It) : (l.takeWhile p).length ≤ l.length := (List.takeWhile_sublist p).length_le
theorem runN_bd {d : Dat} {l : List It} {j : Nat} (h : l.drop j ≠ []) : j + 1 ≤ runN d l j ∧ runN d l j ≤ l.length := by
  have h1 := headK_tw (d := d) h
  have h2 := length_tw (fun y => kind d y == headK d (l.drop j)) (l.drop j)
  have h3 : 0 < (l.drop j).length := List.length_pos_iff.2 h
  rw [List.length_drop] at h2 h3
  unfold runN
  omega
theorem sortAt_bd {k n m : Nat} (h : 1 ≤ n) : 1 ≤ (sortAt k n m).1 ∧ (sortAt k n m).1 ≤ n := by
  unfold sortAt
  repeat' split
  all_goals simp
  all_goals omega
theorem nextI_bd {d : Dat} {l : List It} {e : Bool} {r : Nat × Nat} (hl : l ≠ []) (h : nextI d l e = some r) : 1 ≤ r.1 ∧ r.1 ≤ l.length := by
  unfold nextI at h
  split at h
  · simp at h
  · rename_i n hs
    have := shortI_le hs
    simp at h; subst h; simp; omega
  · split at h
    · simp at h
    · rename_i j hj
      obtain ⟨_, h2⟩ := lead_le hl hj
      obtain ⟨h3, h4⟩ := runN_bd (d := d) h2
      split at h
      · simp at h
      · simp at h; subst h
        obtain ⟨h5, h6⟩ := sortAt_bd (k := headK d (l.drop j)) (m := l.length) (show 1 ≤ runN d l j by omega)
        omega
theorem ofF_enough (d : Dat) : ∀ (f a : Nat) (l : List It) (e : Bool), l.length ≤ f → ofF d f a l e = ofF d l.length a l e := by
  intro f
  induction f using Nat.strongRecOn with
  | _ f ih =>
    intro a l e h
    cases l with
    | nil => cases f <;> simp [ofF]
    | cons x t =>
      obtain ⟨f, rfl⟩ : ∃ k, f = k + 1 := ⟨f - 1, by simp at h; omega⟩
      show ofF d (f + 1) a (x :: t) e = ofF d (t.length + 1) a (x :: t) e
      simp only [ofF, reduceCtorEq, if_false]
      cases hn : nextI d (x :: t) e with
      | none => rfl
      | some r =>
        obtain ⟨n, s⟩ := r
        have hb := nextI_bd (by simp) hn
        simp only at hb
        have hl : ((x :: t).drop n).length ≤ t.length := by rw [List.length_drop, List.length_cons]; omega
        simp only
        rw [ih f (by omega) _ _ _ (by simp at h; omega)]
        by_cases hf : t.length < f + 1
        · rw [ih t.length hf _ _ _ hl]
        · simp at h; omega
theorem ofI_nil (d : Dat) (a : Nat) (e : Bool) : ofI d a [] e = ([], []) := rfl
theorem ofI_none {d : Dat} {a : Nat} {l : List It} {e : Bool} (h : nextI d l e = none) : ofI d a l e = ([], l) := by
  cases l with
  | nil => rfl
  | cons x t =>
    unfold ofI
    simp only [List.length_cons, ofF, reduceCtorEq, if_false, h]
theorem ofI_some {d : Dat} {a n s : Nat} {l : List It} {e : Bool} (hl : l ≠ []) (h : nextI d l e = some (n, s)) :
    ofI d a l e = (⟨a, a + sizes (l.take n), s⟩ :: (ofI d (a + sizes (l.take n)) (l.drop n) e).1, (ofI d (a + sizes (l.take n)) (l.drop n) e).2) := by
  cases l with
  | nil => exact absurd rfl hl
  | cons x t =>
    have hb := nextI_bd (by simp) h
    simp only at hb
    unfold ofI
    rw [← ofF_enough d t.length _ ((x :: t).drop n) e (by rw [List.length_drop, List.length_cons]; omega)]
    simp only [List.length_cons, ofF, reduceCtorEq, if_false, h]
/-! ### What was told stays told -/
theorem shortI_stable {l : List It} {n : Nat} (hl : l ≠ []) (h : shortI l false = some n) (m : List It) (e : Bool) : shortI (l ++ m) e = some n := by
  rcases l with _ | ⟨q, _ | ⟨a, _ | ⟨b, t⟩⟩⟩
  · exact absurd rfl hl
  · simp only [shortI, Bool.not_false, Bool.and_true] at h
    split at h
    · simp at h
    · rename_i hq
      rcases m with _ | ⟨a, _ | ⟨b, t⟩⟩ <;> simp [shortI, hq] <;> simpa using h
  · simp only [shortI, Bool.not_false, Bool.and_true] at h
    split at h
    · rename_i hq
      split at h
      · rename_i ha
        rcases m with _ | ⟨b, t⟩ <;> simp only [List.append_nil, List.cons_append, List.nil_append, shortI, hq, ha, if_true] <;> exact h
      · rename_i ha
        split at h
        · simp at h
        · rename_i hr
          simp only [Bool.not_eq_true, Bool.or_eq_false_iff] at hr
          rcases m with _ | ⟨b, t⟩ <;> simp only [List.append_nil, List.cons_append, List.nil_append, shortI, hq, ha, hr, if_true] <;> simpa using h
    · rename_i hq
      rcases m with _ | ⟨b, t⟩ <;> simp only [List.append_nil, List.cons_append, List.nil_append, shortI, hq] <;> simpa using h
  · exact h
theorem lead_stable {d : Dat} {l : List It} {j : Nat} (hl : l ≠ []) (h : lead d l false = some j) (m : List It) (e : Bool) : lead d (l ++ m) e = some j := by
  rcases l with _ | ⟨q, _ | ⟨a, t⟩⟩
  · exact absurd rfl hl
  · simp only [lead, Bool.not_false, Bool.and_true] at h
    split at h
    · simp at h
    · rename_i hq
      rcases m with _ | ⟨a, t⟩ <;> simp [lead, hq] <;> simpa using h
  · exact h
theorem headK_append {d : Dat} {l : List It} (h : l ≠ []) (m : List It) : headK d (l ++ m) = headK d l := by
  cases l with
  | nil => exact absurd rfl h
  | cons x t => rfl
theorem runN_stable {d : Dat} {l : List It} {j : Nat} (h : l.drop j ≠ []) (hn : runN d l j ≠ l.length) (m : List It) : runN d (l ++ m) j = runN d l j := by
  have hj : j < l.length := by
    have h3 : 0 < (l.drop j).length := List.length_pos_iff.2 h
    rw [List.length_drop] at h3
    omega
  unfold runN at *
  rw [List.drop_append_of_le_length (by omega), headK_append h, List.takeWhile_append, if_neg]
  rw [List.length_drop]
  omega
theorem sortAt_stable {k n m m' : Nat} (h : n < m) (h' : n < m') : sortAt k n m = sortAt k n m' := by unfold sortAt; simp [h, h']
theorem nextI_stable {d : Dat} {l : List It} {r : Nat × Nat} (hl : l ≠ []) (h : nextI d l false = some r) (m : List It) (e : Bool) : nextI d (l ++ m) e = some r := by
  unfold nextI at h ⊢
  split at h
  · simp at h
  · rename_i n hs
    rw [shortI_stable hl hs]
    exact h
  · rename_i hs
    rw [shortI_stable hl hs]
    split at h
    · simp at h
    · rename_i j hj
      obtain ⟨h1, h2⟩ := lead_le hl hj
      obtain ⟨h3, h4⟩ := runN_bd (d := d) h2
      simp only
      rw [lead_stable hl hj]
      split at h
      · simp at h
      · rename_i hn
        have hn' : runN d l j ≠ l.length := by simpa using hn
        have hlt : runN d l j < l.length := by omega
        simp only
        rw [runN_stable h2 hn', if_neg (by simp; omega), ← h, List.drop_append_of_le_length (by omega), headK_append h2, sortAt_stable (m' := l.length) (by simp; omega) hlt]
/-- Of more items the same are told first. -/
theorem ofI_more (d : Dat) (m : List It) (e : Bool) : ∀ (k a : Nat) (l : List It), l.length ≤ k → ∃ u, l = u ++ (ofI d a l false).2 ∧
    ofI d a (l ++ m) e = ((ofI d a l false).1 ++ (ofI d (a + sizes u) ((ofI d a l false).2 ++ m) e).1, (ofI d (a + sizes u) ((ofI d a l false).2 ++ m) e).2) := by
  intro k
  induction k with
  | zero =>
    intro a l h
    obtain rfl : l = [] := List.length_eq_zero_iff.1 (by omega)
    exact ⟨[], rfl, by simp [ofI_nil, sizes]⟩
  | succ k ih =>
    intro a l h
    by_cases hl : l = []
    · subst hl; exact ⟨[], rfl, by simp [ofI_nil, sizes]⟩
    · cases hn : nextI d l false with
      | none => rw [ofI_none hn]; exact ⟨[], rfl, by simp [sizes]⟩
      | some r =>
        obtain ⟨n, s⟩ := r
        have hb := nextI_bd hl hn
        simp only at hb
        obtain ⟨u, h1, h2⟩ := ih (a + sizes (l.take n)) (l.drop n) (by rw [List.length_drop]; omega)
        have hm : l ++ m ≠ [] := by simp [hl]
        rw [ofI_some hl hn]
        refine ⟨l.take n ++ u, ?_, ?_⟩
        · rw [List.append_assoc, ← h1, List.take_append_drop]
        · rw [ofI_some hm (nextI_stable hl hn m e), List.take_append_of_le_length hb.2, List.drop_append_of_le_length hb.2, h2, sizes_append, Nat.add_assoc]
          rfl
end Tess
