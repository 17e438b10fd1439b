/- Plain Lean, no program in sight: the machine that tells pre-tokens as items come. -/
import Derived.Test.YtpfnmcgcpgcfjaaDoorPureStep
namespace Tess
/-- An item as the machine takes it: its bytes, its kind, its byte (0: it is none). -/
structure SI where
  n : Nat
  k : Nat
  c : Nat
  deriving DecidableEq
def si (d : Dat) (x : It) : SI := ⟨x.n, kind d x, if x.n = 1 ∧ x.bad = false then x.r else 0⟩
structure Ct where
  state : Nat
  bytes : Nat
  sort : Nat
  kind : Nat
  letter : SI
  last : SI
  many : Nat
  told : Nat
  out : List Tok
  over : Bool
def si0 : SI := ⟨0, 0, 0⟩
def tell (most n s : Nat) (c : Ct) : Ct :=
  if c.over = true then c else if most < n then { c with over := true }
  else { c with out := c.out ++ [⟨c.told, c.told + n, s⟩], told := c.told + n, state := 0, bytes := 0, many := 0, letter := si0 }
def runs (x : SI) (ahead : Nat) (c : Ct) : Ct := { c with state := 2, kind := x.k, bytes := ahead + x.n, sort := sortOf x.k }
/-- An item at a pre-token's beginning. -/
def base (x : SI) (c : Ct) : Ct :=
  if c.over = true then c else if x.c = 39 then { c with state := 1, bytes := x.n } else if x.k = 3 then { c with state := 3, bytes := x.n, last := x, many := 1 } else runs x 0 c
def parted (most : Nat) (x : SI) (c : Ct) : Ct :=
  let c1 := if 1 < c.many then tell most (c.bytes - c.last.n) 5 c else c
  if c.last.c = 32 then runs x 1 c1 else base x (tell most c.last.n 5 c1)
/-- An item, where the machine stands behind no quote. -/
def one1 (most : Nat) (x : SI) (c : Ct) : Ct :=
  if c.over = true then c
  else if c.state = 2 then (if x.k = c.kind then { c with bytes := c.bytes + x.n } else base x (tell most c.bytes c.sort c))
  else if c.state = 3 then (if x.k = 3 then { c with bytes := c.bytes + x.n, last := x, many := c.many + 1 } else parted most x c)
  else base x c
def unquoted (most : Nat) (c : Ct) : Ct :=
  if 0 < c.letter.n then one1 most c.letter (runs ⟨1, 4, 39⟩ 0 { c with letter := si0 }) else runs ⟨1, 4, 39⟩ 0 { c with letter := si0 }
def twoIs (c : Ct) (x : SI) : Bool := (c.letter.c == 114 && x.c == 101) || (c.letter.c == 118 && x.c == 101) || (c.letter.c == 108 && x.c == 108)
def behind (most : Nat) (x : SI) (c : Ct) : Ct :=
  if c.letter.n = 0 ∧ (x.c = 115 ∨ x.c = 116 ∨ x.c = 109 ∨ x.c = 100) then tell most 2 1 c
  else if c.letter.n = 0 ∧ (x.c = 114 ∨ x.c = 118 ∨ x.c = 108) then { c with letter := x }
  else if twoIs c x = true then tell most 3 1 c
  else one1 most x (unquoted most c)
def one (most : Nat) (x : SI) (c : Ct) : Ct := if c.over = true then c else if c.state = 1 then behind most x c else one1 most x c
def sure (c : Ct) : Nat := if c.state = 2 then c.bytes else if c.state = 3 ∧ 1 < c.many then c.bytes - c.last.n else 0
def looked (most : Nat) (c : Ct) : Ct := { c with over := c.over || decide (most < sure c) }
def takeAll (most : Nat) : List SI → Ct → Ct
  | [], c => c
  | x :: l, c => if (looked most (one most x c)).over = true then looked most (one most x c) else takeAll most l (looked most (one most x c))
def endAll (most : Nat) (c : Ct) : Ct :=
  let c1 := if c.over = false ∧ c.state = 1 then unquoted most c else c
  if c1.over = true then c1 else if c1.state = 2 then tell most c1.bytes c1.sort c1 else if c1.state = 3 then tell most c1.bytes 5 c1 else c1
def ct0 : Ct := ⟨0, 0, 0, 0, si0, si0, 0, 0, [], false⟩

/-! ### Where the machine stands -/
def Proper (x : It) : Prop := 1 ≤ x.n ∧ (x.r < 128 → x.n = 1) ∧ (x.n = 1 → x.bad = false → x.r < 128)
/-- What right data say of a quote and a blank. -/
def Marks (d : Dat) : Prop := kindOf d ((39 : Nat) : Int) = 4 ∧ kindOf d ((32 : Nat) : Int) = 3
theorem item_proper (l : List UInt8) : Proper (item l) := by
  refine ⟨item_pos l, ?_, ?_⟩
  · show (dec l).1 < 128 → (dec l).2 = 1
    unfold dec decC
    repeat' split
    all_goals simp_all
    all_goals omega
  · show (dec l).2 = 1 → ((dec l).1 == 0xFFFD && (dec l).2 == 1) = false → (dec l).1 < 128
    unfold dec decC
    repeat' split
    all_goals simp_all
theorem items_proper (l : List UInt8) : ∀ x ∈ items l, Proper x := by
  induction h : l.length using Nat.strongRecOn generalizing l with
  | _ m ih =>
    subst h
    by_cases e : l = []
    · subst e; simp [items_nil]
    · rw [items_cons l e]
      intro x hx
      have hp := item_pos l
      rcases List.mem_cons.1 hx with rfl | hx
      · exact item_proper l
      · exact ih (l.drop (item l).n).length (by have := item_le l e; rw [List.length_drop]; omega) _ rfl x hx
theorem si_k {d : Dat} {x : It} : (si d x).k = kind d x := rfl
theorem si_c {d : Dat} {x : It} {q : Nat} (h : Proper x) (h0 : q ≠ 0) (h1 : q < 128) : (si d x).c = q ↔ isA x q = true := by
  obtain ⟨_, h2, h3⟩ := h
  unfold si isA
  simp only [Bool.and_eq_true, Bool.not_eq_true', beq_iff_eq]
  constructor
  · intro h
    split at h
    · rename_i hc
      exact ⟨hc.2, h⟩
    · omega
  · rintro ⟨hb, hr⟩
    rw [if_pos ⟨h2 (by omega), hb⟩, hr]
theorem isA_n {x : It} {q : Nat} (h : Proper x) (hq : isA x q = true) (h1 : q < 128) : x.n = 1 := by
  unfold isA at hq
  simp at hq
  exact h.2.1 (by omega)
theorem isA_kind {d : Dat} {x : It} {q : Nat} (hq : isA x q = true) : kind d x = kindOf d q := by
  unfold isA at hq
  simp at hq
  unfold kind
  rw [hq.1, hq.2]
  simp
theorem isA_ne {x : It} {q r : Nat} (hq : isA x q = true) (h : q ≠ r) : isA x r = false := by
  unfold isA at *
  simp at hq
  simp [hq, h]
/-- No Short is in front, whatever follows. -/
def NoShort (p : List It) : Prop := ∀ m e, shortI (p ++ m) e = some 0
theorem NoShort.more {p : List It} (h : NoShort p) (m : List It) : NoShort (p ++ m) := fun m' e => by rw [List.append_assoc]; exact h _ _
theorem noShort_head {x : It} {t : List It} (h : isA x 39 = false) : NoShort (x :: t) := by
  intro m e
  rcases t with _ | ⟨a, _ | ⟨b, t⟩⟩ <;> rcases m with _ | ⟨a', _ | ⟨b', t'⟩⟩ <;> simp [shortI, h]
/-- Items of one kind, which is not Space; a blank may stand ahead. -/
def RunOf (d : Dat) (p : List It) (k : Nat) : Prop := k ≠ 3 ∧ ∃ b r, p = b ++ r ∧ r ≠ [] ∧ (∀ y ∈ r, kind d y = k) ∧ (b = [] ∨ ∃ x, b = [x] ∧ isA x 32 = true)
theorem takeWhile_all {α : Type} {p : α → Bool} {l : List α} (h : ∀ x ∈ l, p x = true) (m : List α) : (l ++ m).takeWhile p = l ++ m.takeWhile p := by
  induction l with
  | nil => rfl
  | cons x l ih => simp [h x (by simp), ih fun y hy => h y (by simp [hy])]
theorem run_next {d : Dat} {p : List It} {k : Nat} (hM : Marks d) (h : RunOf d p k) (m : List It) (e : Bool) (hs : shortI (p ++ m) e = some 0) :
    nextI d (p ++ m) e = if (m.takeWhile fun y => kind d y == k).length = m.length ∧ e = false then none else some (p.length + (m.takeWhile fun y => kind d y == k).length, sortOf k) := by
  obtain ⟨hk3, b, r, rfl, hr, hall, hb⟩ := h
  obtain ⟨y, t, rfl⟩ := List.exists_cons_of_ne_nil hr
  have hy := hall y (by simp)
  have hkr := kind_range d y
  rw [hy] at hkr
  have htw : ((y :: t) ++ m).takeWhile (fun z => kind d z == k) = (y :: t) ++ m.takeWhile fun z => kind d z == k := takeWhile_all (fun z hz => by simpa using hall z hz) m
  have hsort : ∀ n m', sortAt k n m' = (n, sortOf k) := by
    intro n m'
    unfold sortAt sortOf
    rcases (by omega : k = 1 ∨ k = 2 ∨ k = 4) with rfl | rfl | rfl <;> simp
  have hl : lead d (b ++ y :: t ++ m) e = some b.length := by
    rcases hb with rfl | ⟨x, rfl, hx⟩
    · have h32 : isA y 32 = false := by
        cases h' : isA y 32 with
        | false => rfl
        | true => exact absurd ((isA_kind h').symm.trans hy) (by rw [hM.2]; omega)
      rcases t with _ | ⟨a, t⟩ <;> rcases m with _ | ⟨a', m⟩ <;> simp [lead, h32]
    · simp [lead, hx, hy, hk3]
  have hd : (b ++ y :: t ++ m).drop b.length = (y :: t) ++ m := by rw [List.append_assoc, List.drop_left]
  have hh : headK d ((y :: t) ++ m) = k := hy
  unfold nextI
  rw [hs]
  simp only
  rw [hl]
  simp only
  rw [hd, hh]
  have hrn : runN d (b ++ y :: t ++ m) b.length = (b ++ y :: t).length + (m.takeWhile fun z => kind d z == k).length := by
    unfold runN
    rw [hd, hh, htw]
    simp only [List.length_append]
    omega
  rw [hrn, hsort]
  have := length_tw (fun z => kind d z == k) m
  by_cases h1 : (m.takeWhile fun y => kind d y == k).length = m.length
  · cases e
    · rw [if_pos (by simp [h1]; try omega), if_pos ⟨h1, rfl⟩]
    · rw [if_neg (by simp), if_neg (by simp)]
  · rw [if_neg (by simp; omega), if_neg (fun h => h1 h.1)]
/-- Where the machine stands: p is what was taken of the pre-token that isn't told. -/
def Pend (d : Dat) (p : List It) (c : Ct) : Prop :=
  (p = [] ∧ c.state = 0 ∧ c.letter = si0) ∨
  (∃ q, p = [q] ∧ isA q 39 = true ∧ c.state = 1 ∧ c.letter = si0) ∨
  (∃ q x, p = [q, x] ∧ isA q 39 = true ∧ (isA x 114 = true ∨ isA x 118 = true ∨ isA x 108 = true) ∧ c.state = 1 ∧ c.letter = si d x) ∨
  (∃ k, RunOf d p k ∧ NoShort p ∧ c.state = 2 ∧ c.bytes = sizes p ∧ c.sort = sortOf k ∧ c.kind = k) ∨
  (∃ p0 q, p = p0 ++ [q] ∧ (∀ y ∈ p, kind d y = 3) ∧ c.state = 3 ∧ c.bytes = sizes p ∧ c.last = si d q ∧ c.many = p.length)
/-- What the machine told of what it took, c before, c' behind; l: what was not told before. -/
def Good (d : Dat) (most : Nat) (c : Ct) (l : List It) (c' : Ct) : Prop :=
  (c'.over = false ∧ (∀ t ∈ (ofI d c.told l false).1, t.b - t.a ≤ most) ∧ c'.out = c.out ++ (ofI d c.told l false).1 ∧ c'.told + sizes (ofI d c.told l false).2 = c.told + sizes l ∧ Pend d (ofI d c.told l false).2 c') ∨
  (c'.over = true ∧ ∃ ts1 t ts2, (ofI d c.told l false).1 = ts1 ++ t :: ts2 ∧ (∀ u ∈ ts1, u.b - u.a ≤ most) ∧ most < t.b - t.a ∧ c'.out = c.out ++ ts1)
theorem Good.of {d : Dat} {most : Nat} {c c1 c' : Ct} {l : List It} (h : Good d most c1 l c') (ht : c.told = c1.told) (ho : c.out = c1.out) : Good d most c l c' := by
  unfold Good at *
  rw [ht, ho]
  exact h
theorem good_stay {d : Dat} {most : Nat} {c c' : Ct} {l : List It} (h : nextI d l false = none) (h1 : c'.over = false) (h2 : c'.out = c.out) (h3 : c'.told = c.told) (h4 : Pend d l c') : Good d most c l c' := by
  unfold Good
  rw [ofI_none h]
  exact .inl ⟨h1, by simp, by simp [h2], by rw [h3], h4⟩
theorem good_tell {d : Dat} {most : Nat} {c : Ct} {l : List It} {n s N : Nat} (hl : l ≠ []) (h : nextI d l false = some (n, s)) (hc : c.over = false) (hN : sizes (l.take n) = N) (f : Ct → Ct)
    (hf1 : ∀ c1, c1.over = true → (f c1).over = true ∧ (f c1).out = c1.out)
    (hf2 : ∀ c1 : Ct, c1.over = false → c1.state = 0 → c1.letter = si0 → Good d most c1 (l.drop n) (f c1)) : Good d most c l (f (tell most N s c)) := by
  have hz : sizes l = N + sizes (l.drop n) := by rw [← hN, ← sizes_append, List.take_append_drop]
  unfold Good
  rw [ofI_some hl h, hN]
  unfold tell
  rw [if_neg (by rw [hc]; simp)]
  by_cases hm : most < N
  · rw [if_pos hm]
    obtain ⟨h1, h2⟩ := hf1 { c with over := true } rfl
    exact .inr ⟨h1, [], _, _, rfl, by simp, by simp; omega, by rw [h2]; simp⟩
  · rw [if_neg hm]
    rcases hf2 { c with out := c.out ++ [⟨c.told, c.told + N, s⟩], told := c.told + N, state := 0, bytes := 0, many := 0, letter := si0 } hc rfl rfl with ⟨h1, h2, h3, h4, h5⟩ | ⟨h1, ts1, t, ts2, h2, h3, h4, h5⟩
    · refine .inl ⟨h1, ?_, ?_, ?_, h5⟩
      · intro t ht
        rcases List.mem_cons.1 ht with rfl | ht
        · simp; omega
        · exact h2 t ht
      · rw [h3]; simp
      · rw [h4]; simp only; omega
    · refine .inr ⟨h1, _ :: ts1, t, ts2, by rw [h2]; rfl, ?_, h4, by rw [h5]; simp⟩
      intro u hu
      rcases List.mem_cons.1 hu with rfl | hu
      · simp; omega
      · exact h3 u hu
theorem next_single (d : Dat) (x : It) : nextI d [x] false = none := by
  unfold nextI
  simp only [shortI, lead, Bool.not_false, Bool.and_true]
  by_cases h1 : isA x 39 = true
  · rw [if_pos h1]
  · rw [if_neg h1]
    simp only
    by_cases h2 : isA x 32 = true
    · rw [if_pos h2]
    · rw [if_neg h2]
      simp [runN, headK]
theorem tell_over {most n s : Nat} {c : Ct} (h : c.over = true) : tell most n s c = c := by unfold tell; rw [if_pos h]
theorem base_over {x : SI} {c : Ct} (h : c.over = true) : base x c = c := by unfold base; rw [if_pos h]
theorem one1_over {most : Nat} {x : SI} {c : Ct} (h : c.over = true) : one1 most x c = c := by unfold one1; rw [if_pos h]
theorem not39 {d : Dat} {x : It} {k : Nat} (hM : Marks d) (h : kind d x = k) (hk : k ≠ 4) : isA x 39 = false := by
  cases h' : isA x 39 with
  | false => rfl
  | true => exact absurd ((isA_kind h').symm.trans h) (by rw [hM.1]; omega)
theorem not32 {d : Dat} {x : It} {k : Nat} (hM : Marks d) (h : kind d x = k) (hk : k ≠ 3) : isA x 32 = false := by
  cases h' : isA x 32 with
  | false => rfl
  | true => exact absurd ((isA_kind h').symm.trans h) (by rw [hM.2]; omega)
theorem runOf_single {d : Dat} {x : It} (h : kind d x ≠ 3) : RunOf d [x] (kind d x) := ⟨h, [], [x], rfl, by simp, by simp, .inl rfl⟩
theorem good_base {d : Dat} {most : Nat} {c : Ct} {x : It} (hM : Marks d) (hx : Proper x) (h0 : c.over = false) (h2 : c.letter = si0) : Good d most c [x] (base (si d x) c) := by
  unfold base
  rw [if_neg (by rw [h0]; simp)]
  have hq := si_c (d := d) (q := 39) hx (by omega) (by omega)
  by_cases h39 : isA x 39 = true
  · rw [if_pos (hq.2 h39)]
    exact good_stay (next_single d x) h0 rfl rfl (.inr (.inl ⟨x, rfl, h39, rfl, h2⟩))
  · rw [if_neg (fun h => h39 (hq.1 h))]
    simp only [Bool.not_eq_true] at h39
    show Good d most c [x] (if kind d x = 3 then _ else _)
    by_cases h3 : kind d x = 3
    · rw [if_pos h3]
      exact good_stay (next_single d x) h0 rfl rfl (.inr (.inr (.inr (.inr ⟨[], x, rfl, by simpa using h3, rfl, by simp [sizes, si], rfl, rfl⟩))))
    · rw [if_neg h3]
      exact good_stay (next_single d x) h0 rfl rfl (.inr (.inr (.inr (.inl ⟨kind d x, runOf_single h3, noShort_head h39, rfl, by simp [runs, sizes, si], rfl, rfl⟩))))
theorem RunOf.snoc {d : Dat} {p : List It} {k : Nat} {x : It} (h : RunOf d p k) (hx : kind d x = k) : RunOf d (p ++ [x]) k := by
  obtain ⟨h1, b, r, rfl, h2, h3, h4⟩ := h
  refine ⟨h1, b, r ++ [x], by simp, by simp, fun y hy => ?_, h4⟩
  rcases List.mem_append.1 hy with hy | hy
  · exact h3 y hy
  · simp at hy; subst hy; exact hx
theorem RunOf.ne {d : Dat} {p : List It} {k : Nat} (h : RunOf d p k) : p ≠ [] := by
  obtain ⟨h1, b, r, rfl, h2, h3, h4⟩ := h
  simp [h2]
theorem good_run {d : Dat} {most : Nat} {c : Ct} {p : List It} {k : Nat} {x : It} (hM : Marks d) (hx : Proper x) (h0 : c.over = false) (hR : RunOf d p k) (hS : NoShort (p ++ [x])) (h1 : c.state = 2) (h2 : c.bytes = sizes p) (h3 : c.sort = sortOf k) (h4 : c.kind = k) :
    Good d most c (p ++ [x]) (one1 most (si d x) c) := by
  have hs : shortI (p ++ [x]) false = some 0 := by simpa using hS [] false
  have hn := run_next hM hR [x] false hs
  unfold one1
  rw [if_neg (by rw [h0]; simp), if_pos h1]
  by_cases hk : kind d x = k
  · rw [if_pos (by rw [h4]; exact hk)]
    rw [if_pos (by simp [hk])] at hn
    refine good_stay hn h0 rfl rfl (.inr (.inr (.inr (.inl ⟨k, hR.snoc hk, hS, h1, ?_, h3, h4⟩))))
    simp [sizes_append, h2, si, sizes]
  · rw [if_neg (by rw [h4]; exact hk)]
    rw [if_neg (by simp [hk])] at hn
    simp only [List.takeWhile_cons, beq_iff_eq, hk, if_false, List.length_nil, Nat.add_zero] at hn
    rw [h3, h2]
    refine good_tell (by simp) hn h0 (by simp) (base (si d x)) (fun c1 h => by rw [base_over h]; exact ⟨h, rfl⟩) fun c1 a1 a2 a3 => ?_
    rw [List.drop_left]
    exact good_base hM hx a1 a3
theorem head_spaces {d : Dat} {p m : List It} (hM : Marks d) (hp : p ≠ []) (h : ∀ y ∈ p, kind d y = 3) : NoShort (p ++ m) := by
  obtain ⟨y, t, rfl⟩ := List.exists_cons_of_ne_nil hp
  exact noShort_head (not39 hM (h y (by simp)) (by omega))
theorem lead_spaces {d : Dat} {y z : It} {t : List It} {e : Bool} (hz : kind d z = 3) : lead d (y :: z :: t) e = some 0 := by simp [lead, hz]
theorem runN_spaces {d : Dat} {p m : List It} (hp : p ≠ []) (h : ∀ y ∈ p, kind d y = 3) : runN d (p ++ m) 0 = p.length + (m.takeWhile fun y => kind d y == 3).length ∧ headK d ((p ++ m).drop 0) = 3 := by
  have hh : headK d (p ++ m) = 3 := by
    obtain ⟨y, t, rfl⟩ := List.exists_cons_of_ne_nil hp
    exact h y (by simp)
  refine ⟨?_, hh⟩
  unfold runN
  rw [List.drop_zero, hh, takeWhile_all (fun z hz => by simpa using h z hz) m, List.length_append]
  omega
theorem next_spaces {d : Dat} {l : List It} (hM : Marks d) (hl : l ≠ []) (h : ∀ y ∈ l, kind d y = 3) : nextI d l false = none ∧ nextI d l true = some (l.length, 5) := by
  have hs : ∀ e, shortI l e = some 0 := fun e => by simpa using head_spaces (m := []) hM hl h [] e
  obtain ⟨h1, h2⟩ := runN_spaces (m := []) hl h
  simp only [List.append_nil, List.takeWhile_nil, List.length_nil, Nat.add_zero] at h1 h2
  have hl2 : ∀ e, lead d l e = some 0 ∨ (lead d l e = none ∧ e = false) := by
    intro e
    rcases l with _ | ⟨q, _ | ⟨a, t⟩⟩
    · exact absurd rfl hl
    · simp only [lead]
      cases e <;> by_cases h' : isA q 32 = true <;> simp [h']
    · exact .inl (lead_spaces (h a (by simp)))
  unfold nextI
  rw [hs, hs]
  simp only
  constructor
  · rcases hl2 false with h' | ⟨h', _⟩ <;> rw [h'] <;> simp [h1]
  · rcases hl2 true with h' | ⟨_, h'⟩
    · rw [h']; simp only; rw [h1, h2]; simp [sortAt]
    · simp at h'
theorem next_parted {d : Dat} {p0 : List It} {q x : It} (hM : Marks d) (hp : p0 ≠ []) (h : ∀ y ∈ p0 ++ [q], kind d y = 3) (hx : kind d x ≠ 3) : nextI d (p0 ++ [q, x]) false = some (p0.length, 5) := by
  have e : p0 ++ [q, x] = (p0 ++ [q]) ++ [x] := by simp
  have hs : shortI (p0 ++ [q, x]) false = some 0 := by rw [e]; simpa using head_spaces (m := [x]) hM (by simp) h [] false
  obtain ⟨h1, h2⟩ := runN_spaces (m := [x]) (by simp) h
  rw [← e] at h1 h2
  have hl : lead d (p0 ++ [q, x]) false = some 0 := by
    obtain ⟨y, t, rfl⟩ := List.exists_cons_of_ne_nil hp
    cases t with
    | nil => exact lead_spaces (h q (by simp))
    | cons z t => exact lead_spaces (h z (by simp))
  have hp' : 0 < p0.length := List.length_pos_iff.2 hp
  unfold nextI
  rw [hs]
  simp only
  rw [hl]
  simp only
  rw [h1, h2]
  simp [hx, sortAt]
  omega
theorem next_parted1 {d : Dat} {q x : It} (hM : Marks d) (h : kind d q = 3) (hb : isA q 32 = false) (hx : kind d x ≠ 3) : nextI d [q, x] false = some (1, 5) := by
  have hs : shortI [q, x] false = some 0 := noShort_head (t := [x]) (not39 hM h (by omega)) [] false
  unfold nextI
  rw [hs]
  simp [lead, hb, runN, headK, h, hx, sortAt]
theorem runOf_blank {d : Dat} {q x : It} (hb : isA q 32 = true) (hx : kind d x ≠ 3) : RunOf d [q, x] (kind d x) := ⟨hx, [q], [x], rfl, by simp, by simp, .inr ⟨q, rfl, hb⟩⟩
theorem good_parted1 {d : Dat} {most : Nat} {c : Ct} {q x : It} (hM : Marks d) (hq : Proper q) (hx : Proper x) (h0 : c.over = false) (h : kind d q = 3) (hk : kind d x ≠ 3) :
    Good d most c [q, x] (if (si d q).c = 32 then runs (si d x) 1 c else base (si d x) (tell most q.n 5 c)) := by
  have hc := si_c (d := d) (q := 32) hq (by omega) (by omega)
  have h39 := not39 hM h (by omega)
  by_cases hb : isA q 32 = true
  · rw [if_pos (hc.2 hb)]
    have hR := runOf_blank (d := d) hb hk
    have hn := run_next hM hR [] false (noShort_head (t := [x]) h39 [] false)
    rw [if_pos (by simp)] at hn
    simp only [List.append_nil] at hn
    exact good_stay hn h0 rfl rfl (.inr (.inr (.inr (.inl ⟨_, hR, noShort_head h39, rfl, by simp [runs, si, sizes, isA_n hq hb], rfl, rfl⟩))))
  · rw [if_neg (fun h => hb (hc.1 h))]
    refine good_tell (by simp) (next_parted1 hM h (by simpa using hb) hk) h0 (by simp [sizes]) (base (si d x)) (fun c1 h => by rw [base_over h]; exact ⟨h, rfl⟩) fun c1 a1 a2 a3 => ?_
    exact good_base hM hx a1 a3
theorem good_spaces {d : Dat} {most : Nat} {c : Ct} {p0 : List It} {q x : It} (hM : Marks d) (hq : Proper q) (hx : Proper x) (h0 : c.over = false) (hall : ∀ y ∈ p0 ++ [q], kind d y = 3) (h1 : c.state = 3) (h2 : c.bytes = sizes (p0 ++ [q])) (h3 : c.last = si d q) (h4 : c.many = (p0 ++ [q]).length) :
    Good d most c (p0 ++ [q] ++ [x]) (one1 most (si d x) c) := by
  have hkq := hall q (by simp)
  unfold one1
  rw [if_neg (by rw [h0]; simp), if_neg (by omega), if_pos h1, si_k]
  by_cases hk : kind d x = 3
  · rw [if_pos hk]
    have hall2 : ∀ y ∈ p0 ++ [q] ++ [x], kind d y = 3 := fun y hy => by
      rcases List.mem_append.1 hy with hy | hy
      · exact hall y hy
      · simp at hy; subst hy; exact hk
    exact good_stay (next_spaces hM (by simp) hall2).1 h0 rfl rfl (.inr (.inr (.inr (.inr ⟨p0 ++ [q], x, rfl, hall2, h1, by simp [sizes_append, h2, si, sizes]; try omega, rfl, by simp [h4]⟩))))
  · rw [if_neg hk]
    unfold parted
    simp only [h3, h4, h2]
    have hqn : (si d q).n = q.n := rfl
    rw [hqn]
    by_cases hp : p0 = []
    · subst hp
      rw [if_neg (show ¬ 1 < ([] ++ [q] : List It).length by simp)]
      exact good_parted1 hM hq hx h0 hkq hk
    · have hp' : 0 < p0.length := List.length_pos_iff.2 hp
      rw [if_pos (show 1 < (p0 ++ [q]).length by simp; omega)]
      have e : p0 ++ [q] ++ [x] = p0 ++ [q, x] := by simp
      rw [e]
      have hN : sizes (p0 ++ [q]) - q.n = sizes p0 := by rw [sizes_append]; simp [sizes]
      rw [hN]
      refine good_tell (f := fun c1 => if (si d q).c = 32 then runs (si d x) 1 c1 else base (si d x) (tell most q.n 5 c1)) (by simp) (next_parted hM hp hall hk) h0 (by simp) (fun c1 h => ?_) fun c1 a1 a2 a3 => ?_
      · by_cases h5 : (si d q).c = 32
        · simp only [if_pos h5]; exact ⟨h, rfl⟩
        · simp only [if_neg h5]; rw [tell_over h, base_over h]; exact ⟨h, rfl⟩
      · rw [List.drop_left]
        exact good_parted1 hM hq hx a1 hkq hk
theorem runOf_quote {d : Dat} {q : It} (hM : Marks d) (h : isA q 39 = true) : RunOf d [q] 4 := ⟨by omega, [], [q], rfl, by simp, fun y hy => by simp at hy; subst hy; exact (isA_kind h).trans hM.1, .inl rfl⟩
theorem good_behind {d : Dat} {most : Nat} {c : Ct} {q y x : It} (hM : Marks d) (hy : Proper y) (hx : Proper x) (h0 : c.over = false) (hq : isA q 39 = true) (hqn : q.n = 1) (hs : NoShort [q, y, x]) (h1 : c.state = 2) (h2 : c.bytes = 1) (h3 : c.sort = 4) (h4 : c.kind = 4) (hy39 : isA y 39 = false) :
    Good d most c [q, y, x] (one1 most (si d x) (one1 most (si d y) c)) := by
  have hR := runOf_quote hM hq
  by_cases hk : kind d y = 4
  · have e : one1 most (si d y) c = { c with bytes := c.bytes + y.n } := by
      unfold one1
      rw [if_neg (by rw [h0]; simp), if_pos h1, if_pos (by rw [h4]; exact hk)]
      rfl
    rw [e]
    exact (good_run (c := { c with bytes := c.bytes + y.n }) (p := [q, y]) hM hx h0 (hR.snoc hk) hs h1 (by simp [sizes, h2, hqn]) h3 h4).of rfl rfl
  · have e : one1 most (si d y) c = base (si d y) (tell most 1 4 c) := by
      unfold one1
      rw [if_neg (by rw [h0]; simp), if_pos h1, if_neg (by rw [h4]; exact hk), h2, h3]
    rw [e]
    have hn := run_next hM hR [y, x] false (by simpa using hs [] false)
    rw [if_neg (by simp [hk])] at hn
    simp only [List.takeWhile_cons, beq_iff_eq, hk, if_false, List.length_nil, Nat.add_zero] at hn
    refine good_tell (f := fun c1 => one1 most (si d x) (base (si d y) c1)) (by simp) hn h0 (by simp [sizes, hqn]) (fun c1 h => ?_) fun c1 a1 a2 a3 => ?_
    · rw [base_over h, one1_over h]; exact ⟨h, rfl⟩
    · have hc39 : ¬ (si d y).c = 39 := fun h => by rw [(si_c hy (by omega) (by omega)).1 h] at hy39; cases hy39
      show Good d most c1 [y, x] _
      by_cases h3 : kind d y = 3
      · have e : base (si d y) c1 = { c1 with state := 3, bytes := y.n, last := si d y, many := 1 } := by
          unfold base
          rw [if_neg (by rw [a1]; simp), if_neg hc39, si_k, if_pos h3]; rfl
        rw [e]
        exact (good_spaces (c := { c1 with state := 3, bytes := y.n, last := si d y, many := 1 }) (p0 := []) hM hy hx a1 (by simpa using h3) rfl (by simp [sizes]) rfl rfl).of rfl rfl
      · have e : base (si d y) c1 = runs (si d y) 0 c1 := by
          unfold base
          rw [if_neg (by rw [a1]; simp), if_neg hc39, si_k, if_neg h3]
        rw [e]
        exact (good_run (c := runs (si d y) 0 c1) (p := [y]) hM hx a1 (runOf_single h3) (noShort_head hy39) rfl (by simp [runs, sizes, si]) rfl rfl).of rfl rfl
theorem rvl_not39 {x : It} (h : isA x 114 = true ∨ isA x 118 = true ∨ isA x 108 = true) : isA x 39 = false := by
  rcases h with h | h | h <;> exact isA_ne h (by omega)
/-- One item more. -/
theorem one_good {d : Dat} {most : Nat} {c : Ct} {p : List It} {x : It} (hM : Marks d) (hp : ∀ y ∈ p, Proper y) (hx : Proper x) (h0 : c.over = false) (hP : Pend d p c) : Good d most c (p ++ [x]) (one most (si d x) c) := by
  unfold one
  rw [if_neg (by rw [h0]; simp)]
  rcases hP with ⟨rfl, h1, h2⟩ | ⟨q, rfl, hq, h1, h2⟩ | ⟨q, y, rfl, hq, hy, h1, h2⟩ | ⟨k, hR, hS, h1, h2, h3, h4⟩ | ⟨p0, q, rfl, hall, h1, h2, h3, h4⟩
  · rw [if_neg (by omega)]
    unfold one1
    rw [if_neg (by rw [h0]; simp), if_neg (by omega), if_neg (by omega)]
    exact good_base hM hx h0 h2
  · have hqn : q.n = 1 := isA_n (hp q (by simp)) hq (by omega)
    rw [if_pos h1]
    unfold behind
    have hl0 : c.letter.n = 0 := by rw [h2]; rfl
    have s1 := si_c (d := d) (q := 115) hx (by omega) (by omega)
    have s2 := si_c (d := d) (q := 116) hx (by omega) (by omega)
    have s3 := si_c (d := d) (q := 109) hx (by omega) (by omega)
    have s4 := si_c (d := d) (q := 100) hx (by omega) (by omega)
    have s5 := si_c (d := d) (q := 114) hx (by omega) (by omega)
    have s6 := si_c (d := d) (q := 118) hx (by omega) (by omega)
    have s7 := si_c (d := d) (q := 108) hx (by omega) (by omega)
    simp only [hl0, true_and, s1, s2, s3, s4, s5, s6, s7]
    by_cases ha : isA x 115 = true ∨ isA x 116 = true ∨ isA x 109 = true ∨ isA x 100 = true
    · rw [if_pos ha]
      have hxn : x.n = 1 := by rcases ha with h | h | h | h <;> exact isA_n hx h (by omega)
      have hn : nextI d ([q] ++ [x]) false = some (2, 1) := by
        have : shortI [q, x] false = some 2 := by
          rcases ha with h | h | h | h <;> simp [shortI, hq, h]
        unfold nextI
        simp only [List.cons_append, List.nil_append]
        rw [this]
      refine good_tell (f := fun c => c) (by simp) hn h0 (by simp [sizes, hqn, hxn]) (fun c1 h => ⟨h, rfl⟩) fun c1 a1 a2 a3 => ?_
      unfold Good
      simp only [List.cons_append, List.nil_append, List.drop_succ_cons, List.drop_zero, ofI_nil]
      exact .inl ⟨a1, by simp, by simp, trivial, .inl ⟨rfl, a2, a3⟩⟩
    · rw [if_neg ha]
      have ha' : (isA x 115 || isA x 116 || isA x 109 || isA x 100) = false := by simp at ha ⊢; exact ⟨⟨⟨ha.1, ha.2.1⟩, ha.2.2.1⟩, ha.2.2.2⟩
      by_cases hb : isA x 114 = true ∨ isA x 118 = true ∨ isA x 108 = true
      · rw [if_pos hb]
        have hn : nextI d ([q] ++ [x]) false = none := by
          have : shortI [q, x] false = none := by
            simp only [shortI, hq, ha', if_true]
            rcases hb with h | h | h <;> simp [h]
          unfold nextI
          simp only [List.cons_append, List.nil_append]
          rw [this]
        exact good_stay hn h0 rfl rfl (.inr (.inr (.inl ⟨q, x, rfl, hq, hb, h1, rfl⟩)))
      · rw [if_neg hb]
        have hb' : isA x 114 = false ∧ isA x 118 = false ∧ isA x 108 = false := by simpa using hb
        have ht : twoIs c (si d x) = false := by unfold twoIs; rw [h2]; simp [si0]
        rw [if_neg (by rw [ht]; simp)]
        unfold unquoted
        rw [if_neg (by omega)]
        have hS : NoShort ([q] ++ [x]) := by
          intro m e
          rcases m with _ | ⟨b, t⟩ <;> simp [shortI, ha', hb'.1, hb'.2.1, hb'.2.2] <;> simp_all
        exact (good_run (c := runs ⟨1, 4, 39⟩ 0 { c with letter := si0 }) (p := [q]) hM hx h0 (runOf_quote hM hq) hS rfl (by simp [runs, sizes, hqn]) rfl rfl).of rfl rfl
  · have hqn : q.n = 1 := isA_n (hp q (by simp)) hq (by omega)
    have hyP := hp y (by simp)
    have hyn : y.n = 1 := by rcases hy with h | h | h <;> exact isA_n hyP h (by omega)
    rw [if_pos h1]
    unfold behind
    have hl0 : ¬ c.letter.n = 0 := by rw [h2]; show ¬ y.n = 0; omega
    simp only [hl0, false_and, if_false]
    have s5 := si_c (d := d) (q := 114) hyP (by omega) (by omega)
    have s6 := si_c (d := d) (q := 118) hyP (by omega) (by omega)
    have s7 := si_c (d := d) (q := 108) hyP (by omega) (by omega)
    have s8 := si_c (d := d) (q := 101) hx (by omega) (by omega)
    have s9 := si_c (d := d) (q := 108) hx (by omega) (by omega)
    have ht : twoIs c (si d x) = ((isA y 114 && isA x 101) || (isA y 118 && isA x 101) || (isA y 108 && isA x 108)) := by
      unfold twoIs
      rw [h2, Bool.eq_iff_iff]
      simp only [Bool.or_eq_true, Bool.and_eq_true, beq_iff_eq, s5, s6, s7, s8, s9]
    have hy4 : (isA y 115 || isA y 116 || isA y 109 || isA y 100) = false := by
      rcases hy with h | h | h <;> simp [isA_ne h]
    by_cases h3 : twoIs c (si d x) = true
    · rw [if_pos h3]
      rw [ht] at h3
      have hxn : x.n = 1 := by
        simp only [Bool.or_eq_true, Bool.and_eq_true] at h3
        rcases h3 with (h | h) | h <;> exact isA_n hx h.2 (by omega)
      have hn : nextI d ([q, y] ++ [x]) false = some (3, 1) := by
        have : shortI [q, y, x] false = some 3 := by
          simp only [shortI, hq, hy4, if_true]
          rw [if_neg (by simp), if_pos]
          simp only [Bool.or_eq_true, Bool.and_eq_true] at h3 ⊢
          rcases h3 with (h | h) | h
          · exact .inr ⟨.inl h.1, h.2⟩
          · exact .inr ⟨.inr h.1, h.2⟩
          · exact .inl h
        unfold nextI
        simp only [List.cons_append, List.nil_append]
        rw [this]
      refine good_tell (f := fun c => c) (by simp) hn h0 (by simp [sizes, hqn, hyn, hxn]) (fun c1 h => ⟨h, rfl⟩) fun c1 a1 a2 a3 => ?_
      unfold Good
      simp only [List.cons_append, List.nil_append, List.drop_succ_cons, List.drop_zero, ofI_nil]
      exact .inl ⟨a1, by simp, by simp, trivial, .inl ⟨rfl, a2, a3⟩⟩
    · rw [if_neg h3]
      simp only [Bool.not_eq_true] at h3
      rw [ht] at h3
      have hS : NoShort [q, y, x] := by
        intro m e
        simp only [List.cons_append, shortI, hq, hy4, if_true]
        rw [if_neg (by simp), if_neg]
        simp only [Bool.or_eq_false_iff, Bool.and_eq_false_iff] at h3
        simp only [Bool.or_eq_true, Bool.and_eq_true, not_or, not_and, Bool.not_eq_true]
        obtain ⟨⟨a, b⟩, e⟩ := h3
        refine ⟨fun h => ?_, fun h => ?_⟩
        · rcases e with e | e
          · rw [h] at e; cases e
          · exact e
        · rcases h with h | h
          · rcases a with a | a
            · rw [h] at a; cases a
            · exact a
          · rcases b with b | b
            · rw [h] at b; cases b
            · exact b
      unfold unquoted
      rw [if_pos (by omega), h2]
      exact (good_behind (c := runs ⟨1, 4, 39⟩ 0 { c with letter := si0 }) hM hyP hx h0 hq hqn hS rfl (by simp [runs]) rfl rfl (rvl_not39 hy)).of rfl rfl
  · rw [if_neg (by omega)]
    exact good_run hM hx h0 hR (hS.more _) h1 h2 h3 h4
  · rw [if_neg (by omega)]
    exact good_spaces hM (hp q (by simp)) hx h0 hall h1 h2 h3 h4
end Tess
