/- Plain Lean, no program in sight: what holds of each pre-token of a text (the law CutWhole). -/
import Derived.Test.YtpfnmcgcpgcfjaaDoorPureCut
namespace Tess
def kt (s : Nat) : Nat := if s = 2 then 1 else if s = 3 then 2 else if s = 4 then 4 else if s = 5 then 3 else 0
/-- All items but a blank in front are of the sort's kind. -/
def KindsOk (d : Dat) (s : Nat) (its : List It) : Prop := s ≠ 1 → ∀ (i : Nat) (x : It), its[i]? = some x → (i = 0 ∧ x.bad = false ∧ x.r = 32) ∨ kind d x = kt s
def NextOk (d : Dat) (l : List UInt8) (n s : Nat) : Prop := 1 ≤ n ∧ n ≤ l.length ∧ Bd l n ∧ 1 ≤ s ∧ s ≤ 5 ∧ KindsOk d s (items (l.take n))

theorem item_ascii (l : List UInt8) (h : byteN l 0 < 0x80) : item l = ⟨1, byteN l 0, false⟩ := by
  unfold item dec decC
  rw [if_pos h]
  simp; omega
theorem Bd.one {l : List UInt8} (e : l ≠ []) (h : byteN l 0 < 0x80) : Bd l 1 := by
  refine ⟨[item l], items (l.drop (item l).n), items_cons l e, ?_⟩
  rw [item_ascii l h]; rfl
theorem bd_ascii (w : List UInt8) : ∀ (t : List UInt8), (∀ x ∈ w, x < 0x80) → Bd (w ++ t) w.length := by
  induction w with
  | nil => intro t _; exact Bd.zero _
  | cons a w ih =>
    intro t h
    have h1 : Bd (a :: w ++ t) 1 := Bd.one (by simp) (by
      have := h a (by simp)
      show a.toNat < 128
      simpa [UInt8.lt_iff_toNat_lt] using this)
    have := h1.step (k := w.length) (by simpa using ih t (fun x hx => h x (by simp [hx])))
    simpa [Nat.add_comm] using this
theorem short_ok (l : List UInt8) (h : 0 < short l) : short l ≤ l.length ∧ Bd l (short l) := by
  unfold short at *
  cases hf : shorts.find? (fun w => w.isPrefixOf l) with
  | none => rw [hf] at h; simp at h
  | some w =>
    show w.length ≤ l.length ∧ Bd l w.length
    have hm := List.mem_of_find?_eq_some hf
    have hp := List.find?_some hf
    obtain ⟨t, rfl⟩ := List.isPrefixOf_iff_prefix.1 hp
    refine ⟨by simp, bd_ascii w t ?_⟩
    revert hm w
    unfold shorts
    simp
theorem takeWhile_part {α : Type} (p : α → Bool) (l : List α) : l = l.takeWhile p ++ l.dropWhile p := (List.takeWhile_append_dropWhile).symm
theorem items_ne {l : List UInt8} (h : l ≠ []) : items l ≠ [] := by rw [items_cons l h]; simp
/-- What 'run' tells. -/
theorem run_ok (d : Dat) (l : List UInt8) (h : l ≠ []) : ∃ x ys zs, items l = x :: ys ++ zs ∧ runIts d (items l) = x :: ys ∧ (∀ y ∈ x :: ys, kind d y = kind d x) ∧ headK d (items l) = kind d x ∧ (∀ z t, zs = z :: t → kind d z ≠ kind d x) := by
  obtain ⟨x, t, hx⟩ := List.exists_cons_of_ne_nil (items_ne h)
  have hr : runIts d (items l) = (x :: t).takeWhile fun y => kind d y == kind d x := by rw [hx]; rfl
  have hs : ((x :: t).takeWhile fun y => kind d y == kind d x) = x :: t.takeWhile fun y => kind d y == kind d x := by simp
  refine ⟨x, t.takeWhile (fun y => kind d y == kind d x), t.dropWhile (fun y => kind d y == kind d x), ?_, hr.trans hs, ?_, by rw [hx]; rfl, ?_⟩
  · rw [hx, List.cons_append, List.takeWhile_append_dropWhile]
  · intro y hy
    rw [← hs] at hy
    simpa using (List.all_takeWhile (p := fun y => kind d y == kind d x) (l := x :: t) |> List.all_eq_true.1) y hy
  · intro z u hz
    have := List.head?_dropWhile_not (fun y => kind d y == kind d x) t
    rw [hz] at this
    simpa using this
theorem kt_sortOf (k : Nat) (h : 1 ≤ k ∧ k ≤ 4) (h3 : k ≠ 3) : kt (sortOf k) = k ∧ 2 ≤ sortOf k ∧ sortOf k ≤ 4 := by
  unfold kt sortOf
  obtain ⟨h1, h2⟩ := h
  rcases (by omega : k = 1 ∨ k = 2 ∨ k = 4) with rfl | rfl | rfl <;> simp
theorem sizes_pos {x : It} {ys : List It} {l : List UInt8} {zs : List It} (h : items l = x :: ys ++ zs) : 1 ≤ sizes (x :: ys) := by
  have e : l ≠ [] := by intro e; subst e; simp [items_nil] at h
  rw [items_cons l e] at h
  simp only [List.cons_append, List.cons.injEq] at h
  have := item_pos l
  rw [sizes_cons, ← h.1]; omega
theorem sizes_le {l : List UInt8} {ys zs : List It} (h : items l = ys ++ zs) : sizes ys ≤ l.length := by
  rw [← items_sizes l, h, sizes_append]; omega
theorem all_ok {d : Dat} {s : Nat} {its : List It} (h : ∀ y ∈ its, kind d y = kt s) : KindsOk d s its := fun _ _ x hx => .inr (h x (List.mem_of_getElem? hx))

theorem next_ok (d : Dat) (l : List UInt8) (h : l ≠ []) : NextOk d l (next d l).1 (next d l).2 := by
  unfold next
  split
  · rename_i hs
    obtain ⟨h1, h2⟩ := short_ok l hs
    exact ⟨hs, h1, h2, by simp, by simp, fun e => absurd rfl e⟩
  obtain ⟨x, ys, zs, hi, hr, hk, hh, hz⟩ := run_ok d l h
  have hn : (run d l).1 = sizes (x :: ys) := by unfold run; rw [hr]
  have hkk : (run d l).2.2 = kind d x := hh
  have hp := sizes_pos hi
  have hle := sizes_le hi
  have hit := (items_part l _ _ hi).1
  have kx := kind_range d x
  split
  · rename_i h3
    rw [hkk] at h3 ⊢
    obtain ⟨k1, k2, k3⟩ := kt_sortOf _ kx h3
    refine ⟨by omega, by omega, ⟨_, _, hi, hn.symm⟩, by simp; omega, by simp; omega, ?_⟩
    rw [hn, hit]
    exact all_ok fun y hy => (hk y hy).trans k1.symm
  rename_i h3
  have h3 : kind d x = 3 := by rw [hkk] at h3; omega
  split
  · rename_i hb
    obtain ⟨hb0, hb1, hb2⟩ := hb
    have hx : item l = ⟨1, 32, false⟩ := by rw [item_ascii l (by omega), hb0]
    have hl : items l = ⟨1, 32, false⟩ :: items (l.drop 1) := by rw [items_cons l h, hx]
    have hl3 := hl
    rw [hi] at hl3
    simp only [List.cons_append, List.cons.injEq] at hl3
    have hy0 : ys = [] := by
      have := sizes_pos hi
      rw [hn, sizes_cons] at hb1
      have hxn : x.n = 1 := by rw [hl3.1]
      cases ys with
      | nil => rfl
      | cons y t =>
        exfalso
        have e2 : l.drop 1 ≠ [] := by intro e; have := congrArg List.length e; simp at this; omega
        have h2 : items (l.drop 1) = y :: t ++ zs := hl3.2.symm
        have := sizes_pos h2
        omega
    subst hy0
    have e2 : l.drop 1 ≠ [] := by intro e; have := congrArg List.length e; simp at this; omega
    obtain ⟨x', ys', zs', hi', hr', hk', hh', hz'⟩ := run_ok d _ e2
    have hzs : items (l.drop 1) = zs := hl3.2.symm
    have hx3 : kind d x' ≠ 3 := by
      rw [hzs] at hi'
      have := hz x' (ys' ++ zs') (by rw [hi']; rfl)
      rwa [h3] at this
    have hn' : (run d (l.drop 1)).1 = sizes (x' :: ys') := by unfold run; rw [hr']
    have hkk' : (run d (l.drop 1)).2.2 = kind d x' := hh'
    obtain ⟨k1, k2, k3⟩ := kt_sortOf _ (kind_range d x') hx3
    have hle' := sizes_le hi'
    have hl2 : items l = (⟨1, 32, false⟩ :: x' :: ys') ++ zs' := by rw [hl, hi']; rfl
    have hs2 : sizes ((⟨1, 32, false⟩ : It) :: x' :: ys') = 1 + sizes (x' :: ys') := rfl
    have hit2 := (items_part l _ _ hl2).1
    rw [hs2] at hit2
    rw [hn', hkk']
    simp only [List.length_drop] at hle'
    refine ⟨by omega, by simp; omega, ⟨_, _, hl2, hs2⟩, by simp; omega, by simp; omega, ?_⟩
    rw [hit2]
    intro _ i y hy
    cases i with
    | zero => simp at hy; subst hy; exact .inl ⟨rfl, rfl, rfl⟩
    | succ i =>
      simp only [List.getElem?_cons_succ] at hy
      exact .inr ((hk' y (List.mem_of_getElem? hy)).trans k1.symm)
  split
  · rename_i hlast
    obtain ⟨_, hlast⟩ := hlast
    obtain ⟨us, u, hu⟩ : ∃ us u, x :: ys = us ++ [u] := ⟨_, _, (List.dropLast_concat_getLast (by simp : x :: ys ≠ [])).symm⟩
    have hln : (run d l).2.1 = u.n := by unfold run; rw [hr, hu]; simp [lastN]
    have hsz : sizes (x :: ys) = sizes us + u.n := by rw [hu, sizes_append]; rfl
    have hi2 : items l = us ++ ([u] ++ zs) := by rw [hi, hu]; simp
    have hit2 := (items_part l _ _ hi2).1
    have he : (run d l).1 - (run d l).2.1 = sizes us := by omega
    rw [he]
    refine ⟨by omega, by omega, ⟨_, _, hi2, rfl⟩, by simp, by simp, ?_⟩
    rw [hit2]
    exact all_ok fun y hy => (hk y (by rw [hu]; simp [hy])).trans h3
  · rw [hn]
    refine ⟨by omega, by omega, ⟨_, _, hi, rfl⟩, by simp, by simp, ?_⟩
    rw [hit]
    exact all_ok fun y hy => (hk y hy).trans h3

/-! ### All pre-tokens -/
structure TokOk (d : Dat) (L : List UInt8) (e : Nat) (t : Tok) : Prop where
  a : t.a = e
  lt : t.a < t.b
  le : t.b ≤ L.length
  bd : Bd L t.b
  s1 : 1 ≤ t.s
  s2 : t.s ≤ 5
  kinds : KindsOk d t.s (items ((L.drop t.a).take (t.b - t.a)))
def Chained (d : Dat) (L : List UInt8) : Nat → List Tok → Prop
  | e, [] => e = L.length
  | e, t :: ts => TokOk d L e t ∧ Chained d L t.b ts
theorem tokF_chained (d : Dat) (L : List UInt8) : ∀ (f e : Nat), e ≤ L.length → Bd L e → L.length - e ≤ f → Chained d L e (tokF d f e (L.drop e)) := by
  intro f
  induction f with
  | zero => intro e h1 _ h2; simp only [tokF, Chained]; omega
  | succ f ih =>
    intro e h1 hb h2
    simp only [tokF]
    split
    · rename_i h0
      have := congrArg List.length h0
      simp at this
      simp only [Chained]; omega
    · rename_i h0
      obtain ⟨n1, n2, n3, n4, n5, n6⟩ := next_ok d _ h0
      simp only [List.length_drop] at n2
      refine ⟨⟨rfl, by simp; omega, by simp; omega, hb.step n3, n4, n5, ?_⟩, ?_⟩
      · simpa using n6
      · rw [List.drop_drop]
        exact ih (e + (next d (L.drop e)).1) (by omega) (hb.step n3) (by omega)
theorem tokens_chained (d : Dat) (L : List UInt8) : Chained d L 0 (tokens d L) := by
  have := tokF_chained d L L.length 0 (by omega) (Bd.zero L) (by omega)
  simpa [tokens] using this
end Tess
