/- Contracts of slices.Clone at spans, strings, merges, numbers; of model.copied. -/
import Derived.Test.YtpfnmcgcpgcfjaaDoorProg
import Derived.Test.YtpfnmcgcpgcfjaaDoorWords2
import Derived.Lib.SliceRun
namespace Tess
open Go Go.RowKit
/-- A slice value whose cells, one behind the other, are these. -/
def RowIn (w : World) (v : Value) (n : Nat) (cs : List Value) : Prop :=
  ∃ A c, v = .slice A n c ∧ (cs = [] ∨ ∃ b off, A = some ⟨b, off, none⟩ ∧ ∀ j u, cs[j]? = some u → w.cell? ⟨b, off + j, none⟩ = some u)
theorem flat_length {α : Type} (f : α → List Value) (k : Nat) (hk : ∀ x, (f x).length = k) (l : List α) : (l.flatMap f).length = l.length * k := by
  induction l with
  | nil => simp
  | cons a l ih => simp [List.flatMap_cons, hk, ih, Nat.add_mul]; omega
theorem flat_get {α : Type} (f : α → List Value) (k : Nat) (hk : ∀ x, (f x).length = k) (l : List α) : ∀ (i r : Nat) (x : α), l[i]? = some x → r < k → (l.flatMap f)[i * k + r]? = (f x)[r]? := by
  induction l with
  | nil => simp
  | cons a l ih =>
    intro i r x h hr
    rw [List.flatMap_cons]
    cases i with
    | zero =>
      simp at h
      subst h
      rw [Nat.zero_mul, Nat.zero_add, List.getElem?_append_left (by rw [hk]; exact hr)]
    | succ i =>
      simp only [List.getElem?_cons_succ] at h
      rw [List.getElem?_append_right (by rw [hk, Nat.succ_mul]; omega), hk, Nat.succ_mul, show i * k + k + r - k = i * k + r from by omega]
      exact ih i r x h hr
theorem flat_inv {α : Type} (f : α → List Value) (k : Nat) (hk0 : 0 < k) (hk : ∀ x, (f x).length = k) (l : List α) (j : Nat) (u : Value) (h : (l.flatMap f)[j]? = some u) : ∃ i r x, j = i * k + r ∧ r < k ∧ l[i]? = some x ∧ (f x)[r]? = some u := by
  have hj := (List.getElem?_eq_some_iff.1 h).1
  rw [flat_length f k hk] at hj
  have hi : j / k < l.length := (Nat.div_lt_iff_lt_mul hk0).2 hj
  have e : j = j / k * k + j % k := by rw [Nat.mul_comm]; exact (Nat.div_add_mod j k).symm
  refine ⟨j / k, j % k, l[j / k], e, Nat.mod_lt _ hk0, List.getElem?_eq_getElem hi, ?_⟩
  rw [← flat_get f k hk l (j / k) (j % k) _ (List.getElem?_eq_getElem hi) (Nat.mod_lt _ hk0), ← e]
  exact h
def spanCells (l : List (Int × Int)) : List Value := l.flatMap fun x => [.int .i32 x.1, .int .i32 x.2]
def mergeCells (l : List Mg) : List Value := l.flatMap fun x => [.int .i64 x.1, .int .i64 x.2.1, .int .i64 x.2.2]
def strCells (l : List ByteArray) : List Value := l.map .string
def intCells (l : List Int) : List Value := l.map (.int .i64)
theorem getD_of {α : Type} {l : List α} {i : Nat} {x d : α} (h : l[i]? = some x) : l.getD i d = x := by simp [List.getD_eq_getElem?_getD, h]
theorem SpansIn.row {w : World} {v : Value} {l : Sp} (h : SpansIn w v l) : RowIn w v l.length (spanCells l) := by
  obtain ⟨h0, A, c, hv, h⟩ := h
  refine ⟨A, c, hv, ?_⟩
  by_cases hl : l = []
  · subst hl; exact .inl rfl
  · obtain ⟨b, off, hA, hc⟩ := h (List.length_pos_iff.2 hl)
    refine .inr ⟨b, off, hA, fun j u hj => ?_⟩
    obtain ⟨i, r, x, rfl, hr, hx, hu⟩ := flat_inv _ 2 (by omega) (fun _ => rfl) l j u hj
    have hi := (List.getElem?_eq_some_iff.1 hx).1
    obtain ⟨c1, c2⟩ := hc i hi
    rw [getD_of hx] at c1 c2
    rcases (by omega : r = 0 ∨ r = 1) with rfl | rfl
    · simp at hu; rw [← hu]; simpa using c1
    · simp at hu; rw [← hu]; simpa [Nat.add_assoc] using c2
theorem SpansIn.of_row {w : World} {v : Value} {l : Sp} (h : RowIn w v l.length (spanCells l)) (h0 : l.length ≤ 17592186044416) : SpansIn w v l := by
  obtain ⟨A, c, hv, h⟩ := h
  refine ⟨h0, A, c, hv, fun hl => ?_⟩
  rcases h with h | ⟨b, off, hA, hc⟩
  · have := congrArg List.length h
    rw [spanCells, flat_length _ 2 (fun _ => rfl)] at this
    simp only [List.length_nil] at this; omega
  · refine ⟨b, off, hA, fun i hi => ?_⟩
    have hx := List.getElem?_eq_getElem hi
    have e0 := flat_get (fun x : Int × Int => [Value.int .i32 x.1, .int .i32 x.2]) 2 (fun _ => rfl) l i 0 _ hx (by omega)
    have e1 := flat_get (fun x : Int × Int => [Value.int .i32 x.1, .int .i32 x.2]) 2 (fun _ => rfl) l i 1 _ hx (by omega)
    rw [getD_of hx]
    exact ⟨by simpa using hc _ _ e0, by simpa [Nat.add_assoc] using hc _ _ e1⟩
theorem StrsIn.row {w : World} {v : Value} {l : List ByteArray} (h : StrsIn w v l) : RowIn w v l.length (strCells l) := by
  obtain ⟨h0, _, A, c, hv, h⟩ := h
  refine ⟨A, c, hv, ?_⟩
  by_cases hl : l = []
  · subst hl; exact .inl rfl
  · obtain ⟨b, off, hA, hc⟩ := h (List.length_pos_iff.2 hl)
    refine .inr ⟨b, off, hA, fun j u hj => ?_⟩
    simp only [strCells, List.getElem?_map, Option.map_eq_some_iff] at hj
    obtain ⟨x, hx, rfl⟩ := hj
    have := hc j (List.getElem?_eq_some_iff.1 hx).1
    rwa [wAt, getD_of hx] at this
theorem StrsIn.of_row {w : World} {v : Value} {l : List ByteArray} (h : RowIn w v l.length (strCells l)) (h0 : l.length ≤ 8796093022208) (h1 : ∀ i, (wAt l i).size ≤ 140737488355328) : StrsIn w v l := by
  obtain ⟨A, c, hv, h⟩ := h
  refine ⟨h0, h1, A, c, hv, fun hl => ?_⟩
  rcases h with h | ⟨b, off, hA, hc⟩
  · have := congrArg List.length h
    simp [strCells] at this; subst this; simp at hl
  · refine ⟨b, off, hA, fun i hi => ?_⟩
    have hx := List.getElem?_eq_getElem hi
    rw [wAt, getD_of hx]
    exact hc i _ (by simp [strCells])
theorem MergesIn.row {w : World} {v : Value} {l : List Mg} (h : MergesIn w v l) : RowIn w v l.length (mergeCells l) := by
  obtain ⟨h0, _, A, c, hv, h⟩ := h
  refine ⟨A, c, hv, ?_⟩
  by_cases hl : l = []
  · subst hl; exact .inl rfl
  · obtain ⟨b, off, hA, hc⟩ := h (List.length_pos_iff.2 hl)
    refine .inr ⟨b, off, hA, fun j u hj => ?_⟩
    obtain ⟨i, r, x, rfl, hr, hx, hu⟩ := flat_inv _ 3 (by omega) (fun _ => rfl) l j u hj
    have hi := (List.getElem?_eq_some_iff.1 hx).1
    obtain ⟨c1, c2, c3⟩ := hc i hi
    rw [mL, getD_of hx] at c1
    rw [mR, getD_of hx] at c2
    rw [mI, getD_of hx] at c3
    rcases (by omega : r = 0 ∨ r = 1 ∨ r = 2) with rfl | rfl | rfl
    · simp at hu; rw [← hu]; simpa using c1
    · simp at hu; rw [← hu]; simpa [Nat.add_assoc] using c2
    · simp at hu; rw [← hu]; simpa [Nat.add_assoc] using c3
theorem MergesIn.of_row {w : World} {v : Value} {l : List Mg} (h : RowIn w v l.length (mergeCells l)) (h0 : l.length ≤ 8796093022208)
    (h1 : ∀ i, (-9223372036854775808 ≤ mL l i ∧ mL l i ≤ 9223372036854775807) ∧ (-9223372036854775808 ≤ mR l i ∧ mR l i ≤ 9223372036854775807) ∧ (-9223372036854775808 ≤ mI l i ∧ mI l i ≤ 9223372036854775807)) : MergesIn w v l := by
  obtain ⟨A, c, hv, h⟩ := h
  refine ⟨h0, h1, A, c, hv, fun hl => ?_⟩
  rcases h with h | ⟨b, off, hA, hc⟩
  · have := congrArg List.length h
    rw [mergeCells, flat_length _ 3 (fun _ => rfl)] at this
    simp only [List.length_nil] at this; omega
  · refine ⟨b, off, hA, fun i hi => ?_⟩
    have hx := List.getElem?_eq_getElem hi
    have e0 := flat_get (fun x : Mg => [Value.int .i64 x.1, .int .i64 x.2.1, .int .i64 x.2.2]) 3 (fun _ => rfl) l i 0 _ hx (by omega)
    have e1 := flat_get (fun x : Mg => [Value.int .i64 x.1, .int .i64 x.2.1, .int .i64 x.2.2]) 3 (fun _ => rfl) l i 1 _ hx (by omega)
    have e2 := flat_get (fun x : Mg => [Value.int .i64 x.1, .int .i64 x.2.1, .int .i64 x.2.2]) 3 (fun _ => rfl) l i 2 _ hx (by omega)
    rw [mL, mR, mI, getD_of hx]
    exact ⟨by simpa using hc _ _ e0, by simpa [Nat.add_assoc] using hc _ _ e1, by simpa [Nat.add_assoc] using hc _ _ e2⟩
/-- If the slice has a place, it lies from block B on. -/
def FreshV (B : Nat) (v : Value) : Prop := ∀ b, v.ownBlock = some b → B ≤ b
theorem FreshV.nil (B n c : Nat) : FreshV B (.slice none n c) := fun b h => by simp [Value.ownBlock] at h
theorem FreshV.mono {B B' : Nat} {v : Value} (h : FreshV B v) (hB : B' ≤ B) : FreshV B' v := fun b hb => Nat.le_trans hB (h b hb)
theorem FreshV.of_owns {w : World} {base : Nat} {e : TypeId} {size : Nat} {v : Value} {n : Nat} {xs : List Value} (h : w.ownsRow base e size v n xs) : FreshV base v := by
  rcases h.2 with ⟨rfl, _⟩ | ⟨g, cap, cur, rfl, hb, _⟩
  · exact FreshV.nil _ _ _
  · intro b hb'
    simp [Value.ownBlock] at hb'
    omega
/-- What a slice reads as hangs on its own block alone. -/
def SameAt (w w' : World) (v : Value) : Prop := ∀ b, v.ownBlock = some b → ∀ o, w'.cell? ⟨b, o, none⟩ = w.cell? ⟨b, o, none⟩
theorem RowIn.same {w w' : World} {v : Value} {n : Nat} {cs : List Value} (h : RowIn w v n cs) (hs : SameAt w w' v) : RowIn w' v n cs := by
  obtain ⟨A, c, rfl, h⟩ := h
  refine ⟨A, c, rfl, ?_⟩
  rcases h with h | ⟨b, off, rfl, h⟩
  · exact .inl h
  · exact .inr ⟨b, off, rfl, fun j u hj => (hs b rfl _).trans (h j u hj)⟩
theorem SpansIn.same {w w' : World} {v : Value} {l : Sp} (h : SpansIn w v l) (hs : SameAt w w' v) : SpansIn w' v l := SpansIn.of_row (h.row.same hs) h.1
theorem StrsIn.same {w w' : World} {v : Value} {l : List ByteArray} (h : StrsIn w v l) (hs : SameAt w w' v) : StrsIn w' v l := StrsIn.of_row (h.row.same hs) h.1 h.2.1
theorem MergesIn.same {w w' : World} {v : Value} {l : List Mg} (h : MergesIn w v l) (hs : SameAt w w' v) : MergesIn w' v l := MergesIn.of_row (h.row.same hs) h.1 h.2.1
theorem SameAt.refl (w : World) (v : Value) : SameAt w w v := fun _ _ _ => rfl
theorem SameAt.trans {a b c : World} {v : Value} (h : SameAt a b v) (k : SameAt b c v) : SameAt a c v := fun x hx o => (k x hx o).trans (h x hx o)
theorem SameAt.setCell {w w' : World} {v : Value} (h : SameAt w w' v) (p : Addr) (u : Value) (hne : ∀ b, v.ownBlock = some b → b ≠ p.block) : SameAt w (w'.setCell p u) v := fun b hb o =>
  (World.cell?_of_block (w := w') (a := ⟨b, o, none⟩) (Below.heap_setCell w' p u b (hne b hb))).trans (h b hb o)
/-- What the call owns reads as its cells. -/
theorem RowIn.of_owns {w : World} {base : Nat} {e : TypeId} {size : Nat} {v : Value} {n : Nat} {xs : List Value} (h : w.ownsRow base e size v n xs) : RowIn w v n xs := by
  rcases h.2 with ⟨rfl, rfl⟩ | ⟨g, cap, cur, rfl, _⟩
  · have := h.1
    simp at this
    exact ⟨none, 0, rfl, .inl this⟩
  · refine ⟨some ⟨g, 0, none⟩, cap, rfl, .inr ⟨g, 0, rfl, fun j u hj => ?_⟩⟩
    have := h.cells (g := g) rfl j u hj
    rw [Addr.add_lit] at this
    exact this
end Tess
namespace Go.Proofs.YtpfnmcgcpgcfjaaDoor
open Go.RowKit Tess
set_option maxHeartbeats 2000000 in
set_option maxRecDepth 100000 in
theorem clone_spans_row (w : World) (v : Value) (n : Nat) (news : List Value) (hr : RowIn w v n news) (hl : news.length = n * 2) (hbig : n * 8 ≤ 140737488355328) (h1 : ∀ u ∈ news, u.oneCell' = true) :
    Calls Tryd.prog 105 #[v] w fun e w' => ∃ v', e = .returned v' ∧ RowIn w' v' n news ∧ FreshV w.heap.size v' ∧ Below w.heap.size w w' := by
  obtain ⟨A, c, rfl, hr⟩ := hr
  have hinfo : (Tryd.prog.info? 135).map (fun i => (i.zero, i.size, i.bytes)) = some (some (.agg #[.int .i32 0, .int .i32 0]), 2, 8) := by kernel_rfl
  obtain ⟨i0, hi, hz0, hz1, hz2⟩ := info_parts hinfo
  have q := fun (w : World) (a : Option Addr) (n c n' c' : Nat) => Lib.run_eql_slice_nil w _ _ a n c n' c' Tryd.underlying24
  cases A with
  | none =>
    have hn : news = [] := by rcases hr with h | ⟨b, off, h, _⟩
                              · exact h
                              · cases h
    subst hn
    obtain rfl : n = 0 := by simp at hl; omega
    go_enter Tryd.func105, Tryd.ntmps105
    go_wp2
    go_ret
    exact ⟨_, rfl, ⟨none, 0, rfl, .inl rfl⟩, FreshV.nil _ _ _, Below.refl _ _⟩
  | some ad =>
    have hnews : ∀ j u, news[j]? = some u → w.cell? (ad.add j) = some u := by
      intro j u hj
      rcases hr with h | ⟨b, off, h, hc⟩
      · subst h; simp at hj
      · cases h; rw [Addr.add_lit]; exact hc j u hj
    have HN := Lib.hid hnews
    have H1 := Lib.hid h1
    have HL := Lib.hid hl
    clear hnews h1 hl hr
    go_enter Tryd.func105, Tryd.ntmps105
    go_wp2_with (at_builtin; refine wpList_append_own _ rfl _ _ 24 rfl w.heap.size 135 i0 (.agg #[.int .i32 0, .int .i32 0]) 2 8 Tryd.underlying24 hi hz0 hz1 hz2 rfl (by decide) _ _ _ rfl (World.ownsRow_made w #[] 0 (Nat.le_refl _) (Nat.zero_le _) (by simp)) ad n c news rfl ?qc1 ?qc2 ?qc3 ?qc4 ?qc5 ?qc6 ?_)
    case qc1 => exact HL.out
    case qc2 =>
      intro j u hj
      exact cell_below ((Below.refl _ _).alloc (Nat.le_refl _) _) (HN.out j u hj)
    case qc3 => exact H1.out
    case qc4 => rw [Nat.zero_add]; unfold maxLen; omega
    case qc5 => rw [Nat.zero_add]; exact hbig
    case qc6 => simp
    intro v' w1 hown hgrow _
    go_wp2
    go_ret
    refine ⟨v', rfl, ?_, FreshV.of_owns hown, ?_⟩
    · have := RowIn.of_owns hown
      simpa using this
    · exact ((Below.refl _ w).alloc (Nat.le_refl _) _).grown hgrow (by simp) (by intro k hk; simp [Value.ownBlock] at hk; omega)
set_option maxHeartbeats 2000000 in
set_option maxRecDepth 100000 in
theorem clone_strs_row (w : World) (v : Value) (n : Nat) (news : List Value) (hr : RowIn w v n news) (hl : news.length = n * 1) (hbig : n * 16 ≤ 140737488355328) (h1 : ∀ u ∈ news, u.oneCell' = true) :
    Calls Tryd.prog 108 #[v] w fun e w' => ∃ v', e = .returned v' ∧ RowIn w' v' n news ∧ FreshV w.heap.size v' ∧ Below w.heap.size w w' := by
  obtain ⟨A, c, rfl, hr⟩ := hr
  have hinfo : (Tryd.prog.info? 9).map (fun i => (i.zero, i.size, i.bytes)) = some (some (.string ⟨#[]⟩), 1, 16) := by kernel_rfl
  obtain ⟨i0, hi, hz0, hz1, hz2⟩ := info_parts hinfo
  have q := fun (w : World) (a : Option Addr) (n c n' c' : Nat) => Lib.run_eql_slice_nil w _ _ a n c n' c' Tryd.underlying22
  cases A with
  | none =>
    have hn : news = [] := by rcases hr with h | ⟨b, off, h, _⟩
                              · exact h
                              · cases h
    subst hn
    obtain rfl : n = 0 := by simp at hl; omega
    go_enter Tryd.func108, Tryd.ntmps108
    go_wp2
    go_ret
    exact ⟨_, rfl, ⟨none, 0, rfl, .inl rfl⟩, FreshV.nil _ _ _, Below.refl _ _⟩
  | some ad =>
    have hnews : ∀ j u, news[j]? = some u → w.cell? (ad.add j) = some u := by
      intro j u hj
      rcases hr with h | ⟨b, off, h, hc⟩
      · subst h; simp at hj
      · cases h; rw [Addr.add_lit]; exact hc j u hj
    have HN := Lib.hid hnews
    have H1 := Lib.hid h1
    have HL := Lib.hid hl
    clear hnews h1 hl hr
    go_enter Tryd.func108, Tryd.ntmps108
    go_wp2_with (at_builtin; refine wpList_append_own _ rfl _ _ 22 rfl w.heap.size 9 i0 (.string ⟨#[]⟩) 1 16 Tryd.underlying22 hi hz0 hz1 hz2 rfl (by decide) _ _ _ rfl (World.ownsRow_made w #[] 0 (Nat.le_refl _) (Nat.zero_le _) (by simp)) ad n c news rfl ?qc1 ?qc2 ?qc3 ?qc4 ?qc5 ?qc6 ?_)
    case qc1 => exact HL.out
    case qc2 =>
      intro j u hj
      exact cell_below ((Below.refl _ _).alloc (Nat.le_refl _) _) (HN.out j u hj)
    case qc3 => exact H1.out
    case qc4 => rw [Nat.zero_add]; unfold maxLen; omega
    case qc5 => rw [Nat.zero_add]; exact hbig
    case qc6 => simp
    intro v' w1 hown hgrow _
    go_wp2
    go_ret
    refine ⟨v', rfl, ?_, FreshV.of_owns hown, ?_⟩
    · have := RowIn.of_owns hown
      simpa using this
    · exact ((Below.refl _ w).alloc (Nat.le_refl _) _).grown hgrow (by simp) (by intro k hk; simp [Value.ownBlock] at hk; omega)
set_option maxHeartbeats 2000000 in
set_option maxRecDepth 100000 in
theorem clone_merges_row (w : World) (v : Value) (n : Nat) (news : List Value) (hr : RowIn w v n news) (hl : news.length = n * 3) (hbig : n * 24 ≤ 140737488355328) (h1 : ∀ u ∈ news, u.oneCell' = true) :
    Calls Tryd.prog 109 #[v] w fun e w' => ∃ v', e = .returned v' ∧ RowIn w' v' n news ∧ FreshV w.heap.size v' ∧ Below w.heap.size w w' := by
  obtain ⟨A, c, rfl, hr⟩ := hr
  have hinfo : (Tryd.prog.info? 133).map (fun i => (i.zero, i.size, i.bytes)) = some (some (.agg #[.int .i64 0, .int .i64 0, .int .i64 0]), 3, 24) := by kernel_rfl
  obtain ⟨i0, hi, hz0, hz1, hz2⟩ := info_parts hinfo
  have q := fun (w : World) (a : Option Addr) (n c n' c' : Nat) => Lib.run_eql_slice_nil w _ _ a n c n' c' Tryd.underlying23
  cases A with
  | none =>
    have hn : news = [] := by rcases hr with h | ⟨b, off, h, _⟩
                              · exact h
                              · cases h
    subst hn
    obtain rfl : n = 0 := by simp at hl; omega
    go_enter Tryd.func109, Tryd.ntmps109
    go_wp2
    go_ret
    exact ⟨_, rfl, ⟨none, 0, rfl, .inl rfl⟩, FreshV.nil _ _ _, Below.refl _ _⟩
  | some ad =>
    have hnews : ∀ j u, news[j]? = some u → w.cell? (ad.add j) = some u := by
      intro j u hj
      rcases hr with h | ⟨b, off, h, hc⟩
      · subst h; simp at hj
      · cases h; rw [Addr.add_lit]; exact hc j u hj
    have HN := Lib.hid hnews
    have H1 := Lib.hid h1
    have HL := Lib.hid hl
    clear hnews h1 hl hr
    go_enter Tryd.func109, Tryd.ntmps109
    go_wp2_with (at_builtin; refine wpList_append_own _ rfl _ _ 23 rfl w.heap.size 133 i0 (.agg #[.int .i64 0, .int .i64 0, .int .i64 0]) 3 24 Tryd.underlying23 hi hz0 hz1 hz2 rfl (by decide) _ _ _ rfl (World.ownsRow_made w #[] 0 (Nat.le_refl _) (Nat.zero_le _) (by simp)) ad n c news rfl ?qc1 ?qc2 ?qc3 ?qc4 ?qc5 ?qc6 ?_)
    case qc1 => exact HL.out
    case qc2 =>
      intro j u hj
      exact cell_below ((Below.refl _ _).alloc (Nat.le_refl _) _) (HN.out j u hj)
    case qc3 => exact H1.out
    case qc4 => rw [Nat.zero_add]; unfold maxLen; omega
    case qc5 => rw [Nat.zero_add]; exact hbig
    case qc6 => simp
    intro v' w1 hown hgrow _
    go_wp2
    go_ret
    refine ⟨v', rfl, ?_, FreshV.of_owns hown, ?_⟩
    · have := RowIn.of_owns hown
      simpa using this
    · exact ((Below.refl _ w).alloc (Nat.le_refl _) _).grown hgrow (by simp) (by intro k hk; simp [Value.ownBlock] at hk; omega)
theorem clone_spans (w : World) (v : Value) (l : Sp) (h : SpansIn w v l) :
    Calls Tryd.prog 105 #[v] w fun e w' => ∃ v', e = .returned v' ∧ SpansIn w' v' l ∧ FreshV w.heap.size v' ∧ Below w.heap.size w w' :=
  (clone_spans_row w v l.length (spanCells l) h.row (flat_length _ 2 (fun _ => rfl) l) (by have := h.1; omega) (fun u hu => by
    simp only [spanCells, List.mem_flatMap] at hu
    obtain ⟨x, _, hu⟩ := hu
    simp at hu
    rcases hu with rfl | rfl <;> rfl)).mono fun _ _ ⟨v', he, hr, hf, hb⟩ => ⟨v', he, SpansIn.of_row hr h.1, hf, hb⟩
theorem clone_strs (w : World) (v : Value) (l : List ByteArray) (h : StrsIn w v l) :
    Calls Tryd.prog 108 #[v] w fun e w' => ∃ v', e = .returned v' ∧ StrsIn w' v' l ∧ FreshV w.heap.size v' ∧ Below w.heap.size w w' :=
  (clone_strs_row w v l.length (strCells l) h.row (by simp [strCells]) (by have := h.1; omega) (fun u hu => by
    simp only [strCells, List.mem_map] at hu
    obtain ⟨x, _, rfl⟩ := hu
    rfl)).mono fun _ _ ⟨v', he, hr, hf, hb⟩ => ⟨v', he, StrsIn.of_row hr h.1 h.2.1, hf, hb⟩
theorem clone_merges (w : World) (v : Value) (l : List Mg) (h : MergesIn w v l) (hl : l.length ≤ 4398046511104) :
    Calls Tryd.prog 109 #[v] w fun e w' => ∃ v', e = .returned v' ∧ MergesIn w' v' l ∧ FreshV w.heap.size v' ∧ Below w.heap.size w w' :=
  (clone_merges_row w v l.length (mergeCells l) h.row (flat_length _ 3 (fun _ => rfl) l) (by omega) (fun u hu => by
    simp only [mergeCells, List.mem_flatMap] at hu
    obtain ⟨x, _, hu⟩ := hu
    simp at hu
    rcases hu with rfl | rfl | rfl <;> rfl)).mono fun _ _ ⟨v', he, hr, hf, hb⟩ => ⟨v', he, MergesIn.of_row hr h.1 h.2.1, hf, hb⟩
end Go.Proofs.YtpfnmcgcpgcfjaaDoor
