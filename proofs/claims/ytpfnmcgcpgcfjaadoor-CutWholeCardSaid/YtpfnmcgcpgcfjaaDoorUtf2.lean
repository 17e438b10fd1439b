/- Contracts of utf.Items and of what it hands out. -/
import Derived.Test.YtpfnmcgcpgcfjaaDoorUtf
import Derived.RangeFuncBox
namespace Tess
open Go Go.RowKit Go.Shelf
/-- A text's items with their places: a type, so that a loop's body knows what it is handed. -/
abbrev ItsOf (L : List UInt8) := { x : Nat × It // x ∈ itemsAt 0 (items L) }
theorem itemsAt_length (a : Nat) (l : List It) : (itemsAt a l).length = l.length := by
  induction l generalizing a with
  | nil => rfl
  | cons x l ih => simp [itemsAt, ih]
theorem itemsAt_snd (a : Nat) (l : List It) : (itemsAt a l).map (·.2) = l := by
  induction l generalizing a with
  | nil => rfl
  | cons x l ih => simp [itemsAt, ih]
theorem itemsAt_mem {L : List UInt8} {x : Nat × It} (a : Nat) (h : x ∈ itemsAt a (items L)) : a ≤ x.1 ∧ x.1 + x.2.n ≤ a + L.length ∧ 1 ≤ x.2.n ∧ x.2.n ≤ 4 ∧ x.2.r ≤ 0x10FFFF := by
  induction h' : L.length using Nat.strongRecOn generalizing L a with
  | _ m ih =>
    subst h'
    by_cases e : L = []
    · subst e; simp [items_nil, itemsAt] at h
    · have hp := item_pos L
      have hl := item_le L e
      rw [items_cons L e] at h
      simp only [itemsAt, List.mem_cons] at h
      rcases h with rfl | h
      · exact ⟨Nat.le_refl _, by simp only; omega, hp, dec_le4 L, dec_rune L⟩
      · have := ih (L.drop (item L).n).length (by rw [List.length_drop]; omega) (a + (item L).n) h rfl
        rw [List.length_drop] at this
        exact ⟨by omega, by omega, this.2.2⟩
theorem grown_below {W W' : World} (h : Below W.heap.size W W') : W.grownBy W' none := ⟨h.os, h.tape, h.output, h.size, fun k hk _ => h.block k hk⟩
theorem abides_below {β : Type} {B : Nat} {J : β → World → Prop} (h : AbidesFrom B J) {s : β} {W W' : World} (hs : J s W) (hb : Below W.heap.size W W') : J s W' := h s W W' none hs (grown_below hb) fun r e => by cases e
theorem keeps_below {W W' : World} (h : Below W.heap.size W W') : KeepsOthers W W' := ⟨h.size, fun k _ hk _ => (h.block k (Array.getElem?_eq_some_iff.1 hk).1).trans hk⟩
/-- What a round of a loop keeps: what lay below n₀, and all cells that were made since block B, but those of type T. -/
structure Rnd (n₀ B T : Nat) (W W' : World) : Prop where
  below : Below n₀ W W'
  same : ∀ k cs t fr, B ≤ k → W.heap[k]? = some (.cells cs t fr) → t ≠ T → W'.heap[k]? = some (.cells cs t fr)
theorem Rnd.refl (n₀ B T : Nat) (W : World) : Rnd n₀ B T W W := ⟨Below.refl _ _, fun _ _ _ _ _ h _ => h⟩
theorem Rnd.trans {n₀ B T : Nat} {W W' W'' : World} (h : Rnd n₀ B T W W') (k : Rnd n₀ B T W' W'') : Rnd n₀ B T W W'' :=
  ⟨h.below.trans k.below, fun i cs t fr hi ho hc => k.same i cs t fr hi (h.same i cs t fr hi ho hc) hc⟩
theorem Rnd.of_below {n₀ B T : Nat} {W W' : World} (h : Below W.heap.size W W') (hn : n₀ ≤ W.heap.size) : Rnd n₀ B T W W' :=
  ⟨h.mono hn, fun k _ _ _ _ hk _ => (h.block k (Array.getElem?_eq_some_iff.1 hk).1).trans hk⟩
theorem Rnd.alloc {n₀ B T : Nat} {W W' : World} (h : Rnd n₀ B T W W') (hn : n₀ ≤ W.heap.size) (o : Obj) : Rnd n₀ B T W (W'.alloc o) :=
  h.trans (Rnd.of_below ((Below.refl _ _).alloc (Nat.le_refl _) _) (Nat.le_trans hn h.below.size))
theorem Rnd.drew {n₀ B T : Nat} {W W' : World} (h : Rnd n₀ B T W W') : Rnd n₀ B T W W'.drew := ⟨h.below.drew, h.same⟩
theorem Rnd.setCell {n₀ B T : Nat} {W W' : World} (h : Rnd n₀ B T W W') {p : Addr} (h1 : n₀ ≤ p.block) (h2 : p.block < B) (v : Value) : Rnd n₀ B T W (W'.setCell p v) :=
  ⟨h.below.setCell h1 v, fun k cs t fr hk ho hc => (Below.heap_setCell W' p v k (by omega)).trans (h.same k cs t fr hk ho hc)⟩
theorem Rnd.box {n₀ B T : Nat} {W W' : World} (h : Rnd n₀ B T W W') {k : Nat} {t : TypeId} {v : Value} (hc : Boxed W k t v) (hk : B ≤ k) (ht : t ≠ T) : Boxed W' k t v := h.same k _ _ _ hk hc ht
theorem rnd_t {n₀ B T : Nat} {X Y Z : World} : Rnd n₀ B T X Y → Rnd n₀ B T Y Z → Rnd n₀ B T X Z := Rnd.trans
theorem rnd_b {n₀ B T b : Nat} (hb : n₀ ≤ b) (W : World) (l : Nat) (o o' : Obj) (hl : b ≤ l) (ho : W.heap[l]? = some o) (hc : o.isCells = false) (_ : o.isWalk = false) : Rnd n₀ B T W (W.putObj l o') := by
  have hg := grownBy_putObj' W l o'
  refine ⟨⟨hg.os, hg.tape, hg.output, hg.size, fun k hk => ?_⟩, fun k cs t fr hk ho2 hc2 => ?_⟩
  · by_cases h' : k < W.heap.size
    · exact hg.block k h' (by simp; omega)
    · have hs : (W.putObj l o').heap.size = W.heap.size := by simp [World.putObj]
      rw [Array.getElem?_eq_none (by omega), Array.getElem?_eq_none (by omega)]
  · refine (hg.block k (Array.getElem?_eq_some_iff.1 ho2).1 ?_).trans ho2
    intro e
    simp only [Option.some.injEq] at e
    subst e
    rw [ho] at ho2
    cases ho2
    cases hc
end Tess
namespace Go.Proofs.YtpfnmcgcpgcfjaaDoor
open Go.RowKit Tess Go.Shelf
attribute [local go_sem] Oper.semAt_some
/-- The tables of utf8, where this program has them. -/
abbrev Tabs (w : World) : Prop := Lib.Utf8Tabs 0 1 w
theorem Tabs.keep {W W' : World} {n₀ : Nat} (h : Tabs W) (hb : Below n₀ W W') (h2 : 2 ≤ n₀) : Tabs W' :=
  ⟨fun c hc => (hb.cell (p := ⟨0, c, none⟩) (by show 0 < n₀; omega)).trans (h.1 c hc),
   fun i hi => ⟨(hb.cell (p := ⟨1, 2 * i, none⟩) (by show 1 < n₀; omega)).trans (h.2 i hi).1, (hb.cell (p := ⟨1, 2 * i + 1, none⟩) (by show 1 < n₀; omega)).trans (h.2 i hi).2⟩⟩
theorem Tabs.two {W : World} (h : Tabs W) : 2 ≤ W.heap.size := by
  have := World.block_lt_of_cell? _ _ (h.2 0 (by omega)).1
  have h' : 1 < W.heap.size := this
  omega
set_option maxHeartbeats 1000000 in
theorem utf_Items (w : World) (s : ByteArray) :
    Calls Tryd.prog 18 #[.string s] w fun e w' => e = .returned (.func (.func 60) #[] #[.pointer (some ⟨w.heap.size, 0, none⟩)]) ∧ w' = w.alloc (.cells #[.string s] 9) := by
  go_enter Tryd.func18, Tryd.ntmps18
  go_wp2
  go_ret
  exact ⟨rfl, rfl⟩
set_option maxHeartbeats 8000000 in
set_option maxRecDepth 100000 in
theorem Items_in (n : Nat) (hn : 2 ≤ n) (l Bn n₀ B T : Nat) (ht1 : 9 ≠ T) (ht2 : 43 ≠ T) (s : ByteArray) (hs : s.size ≤ 140737488355328) (hBn : B ≤ Bn) (h2 : 2 ≤ n₀) (J Jx : List (ItsOf s.data.toList) → World → Prop) (W : World) (hJ : AbidesFrom W.heap.size J)
    (hY : ∀ pre x W1, J pre W1 → pre.length < (items s.data.toList).length → YieldAt Fence.wide (n - 1) Tryd.prog l #[itV x.1.1 x.1.2] W1 fun e W' =>
      (e = .returned (.bool true) ∧ J (pre ++ [x]) W' ∧ Rnd n₀ B T W1 W') ∨ (e = .returned (.bool false) ∧ Jx (pre ++ [x]) W'))
    (hc : Boxed W Bn 9 (.string s)) (hT : Lib.Utf8Tabs 0 1 W) (hz : n₀ ≤ W.heap.size) (hzB : B ≤ W.heap.size) (h0 : J [] W) :
    CallsIn Fence.wide n Tryd.prog 60 #[.func (.yield l) #[] #[], .pointer (some ⟨Bn, 0, none⟩)] W fun e W' => (∃ v, e = .returned v) ∧
      ((∃ xs : List (ItsOf s.data.toList), xs.map (·.1) = itemsAt 0 (items s.data.toList) ∧ J xs W') ∨ (∃ pre : List (ItsOf s.data.toList), pre.map (·.1) <+: itemsAt 0 (items s.data.toList) ∧ Jx pre W')) := by
  have HJ := Lib.hid hJ
  have HY := Lib.hid hY
  have HT := Lib.hid hT
  clear hJ hY hT
  refine callsIn_of_wp Tryd.func60 rfl trivial ?_ rfl
  simp only [Tryd.ntmps60, List.size_toArray, List.length_cons, List.length_nil, Nat.reduceAdd, Nat.reduceSub, Array.replicate_succ, Array.replicate_zero, List.push_toArray, List.append_toArray, List.nil_append, List.cons_append]
  gi_wp2
  gi_loopw [3] (fun p wr => ∃ (k : Nat) (pre : List (ItsOf s.data.toList)), p = .int .i64 k ∧ k ≤ s.size ∧ pre.map (·.1) ++ itemsAt k (items (s.data.toList.drop k)) = itemsAt 0 (items s.data.toList) ∧ J pre wr ∧ Rnd n₀ B T W wr)
    (fun p _ => s.size - (intOf p).toNat)
  case atStart => exact ⟨0, [], rfl, Nat.zero_le _, by simp, h0, Rnd.refl _ _ _ _⟩
  case round =>
    obtain ⟨k, pre, rfl, hk, he, hJs, hb⟩ := hrel
    have hcx : wr.cell? ⟨Bn, 0, none⟩ = some (.string s) := (hb.box hc hBn ht1).cell
    by_cases hlt : k < s.size
    · have hlen : s.data.toList.length = s.size := by rw [Array.length_toList]; rfl
      have hne : s.data.toList.drop k ≠ [] := by
        intro e
        have := congrArg List.length e
        rw [List.length_drop, List.length_nil, hlen] at this
        omega
      have hx : s.data.toList.drop k = (s.extract k s.size).data.toList := (tailB_list s k).symm
      have hsz : 0 < (s.extract k s.size).size := by
        have : (s.extract k s.size).data.toList.length = (s.extract k s.size).size := by rw [Array.length_toList]; rfl
        rw [← this, ← hx]
        exact List.length_pos_iff.2 hne
      have hic := items_cons _ hne
      have hle := item_le _ hne
      have hps := item_pos (s.data.toList.drop k)
      have h4 : (item (s.data.toList.drop k)).n ≤ 4 := dec_le4 _
      rw [List.length_drop, hlen] at hle
      obtain ⟨x, hxx⟩ : ∃ x, item (s.data.toList.drop k) = x := ⟨_, rfl⟩
      rw [hxx] at hle hps h4 hic
      rw [hic] at he
      have hmem : (k, x) ∈ itemsAt 0 (items s.data.toList) := by rw [← he]; simp [itemsAt]
      have hpl : pre.length < (items s.data.toList).length := by
        have := congrArg List.length he
        simp only [List.length_append, List.length_map, itemsAt, List.length_cons, itemsAt_length] at this
        omega
      have hcall := utf_first wr (s.extract k s.size) k (Tabs.keep HT.out hb.below h2) hsz
      rw [← hx, hxx] at hcall
      have HC := Lib.hid hcall
      have HE := Lib.hid he
      clear hcall he hx hxx hsz hic hne
      gi_wp2_with fail
      refine ⟨trivial, fun h => by omega, callsIn_wide.2 (HC.out.mono ?_)⟩
      rintro e w1 ⟨rfl, hb1⟩
      unfold itV
      have hba : Below w1.heap.size w1 (w1.alloc (Obj.cells #[.int .i64 (k : Nat), .int .i64 (x.n : Nat), .int .i32 (x.r : Nat), .bool x.bad] 43)) := by (repeat (first | with_reducible exact Below.refl _ _ | assumption | refine Below.drew ?_ | refine below_drewN ?_ _ | refine Below.alloc ?_ (by first | omega | (simp; done) | (simp; omega)) _ | refine Below.setCell ?_ (by first | omega | (simp; done) | (simp; omega)) _))
      have hJ1 := abides_below HJ.out hJs (hb1.trans (hba.mono hb1.size))
      obtain ⟨fn, tmps, assign, body, hy, hR⟩ := HY.out pre ⟨(k, x), hmem⟩ _ hJ1 hpl
      have hb2 := hb.trans (Rnd.of_below (n₀ := n₀) (B := B) (T := T) (hb1.trans (hba.mono hb1.size)) (Nat.le_trans hz hb.below.size))
      have x1 : (w1.alloc (Obj.cells #[.int .i64 (k : Nat), .int .i64 (x.n : Nat), .int .i32 (x.r : Nat), .bool x.bad] 43)).cell? ⟨w1.heap.size, 1, none⟩ = some (.int .i64 (x.n : Nat)) := by go_simp
      have hltB : B ≤ w1.heap.size := Nat.le_trans hzB (Nat.le_trans hb.below.size hb1.size)
      have hlt1 : n₀ ≤ w1.heap.size := Nat.le_trans (Nat.le_trans hz hb.below.size) hb1.size
      clear hb1 hba hJ1 hJs HC hb hcx
      dsimp only [itV] at hy
      gi_wp2
      refine ⟨fun _ => by omega, hR.mono ?_⟩
      rintro e W3 (⟨rfl, hJ3, hk3⟩ | ⟨rfl, hJx3⟩)
      · have x3 := (blk_cell (hk3.same _ _ _ _ hltB (blk_new w1 _) ht2) 1).trans (rfl : _ = some (Value.int .i64 (x.n : Nat)))
        have hw : IntKind.i64.wrap ((k : Int) + x.n) = ((k + x.n : Nat) : Int) := by rw [Go.IntWalk.i64_in _ (by omega)]; push_cast; rfl
        gi_wp2
        go_roundw
        case rel =>
          refine ⟨k + x.n, pre ++ [⟨(k, x), hmem⟩], rfl, by omega, ?_, hJ3, hb2.trans hk3⟩
          have := HE.out
          rw [← List.drop_drop]
          simpa [itemsAt] using this
        case measure => (simp [intOf]; omega)
      · gi_wp2
        refine bodyPost_ret (results_none rfl _ _ _) rfl ?_
        refine ⟨⟨_, rfl⟩, .inr ⟨pre ++ [⟨(k, x), hmem⟩], ⟨itemsAt (k + x.n) (items ((s.data.toList.drop k).drop x.n)), ?_⟩, hJx3⟩⟩
        have := HE.out
        simpa [itemsAt] using this
    · obtain rfl : k = s.size := by omega
      gi_wp2
      go_end0
      rw [show s.data.toList.drop s.size = [] from by rw [List.drop_eq_nil_iff, Array.length_toList]; exact Nat.le_refl _] at he
      exact ⟨⟨_, rfl⟩, .inl ⟨pre, by simpa [items_nil, itemsAt] using he, hJs⟩⟩
/-- What utf.Items hands out: the text's items, with their places; or a beginning of them. -/
theorem Items_stops (n : Nat) (hn : 2 ≤ n) (Bn n₀ B T : Nat) (ht1 : 9 ≠ T) (ht2 : 43 ≠ T) (s : ByteArray) (hs : s.size ≤ 140737488355328) (hBn : B ≤ Bn) (h2 : 2 ≤ n₀) (w : World)
    (hc : Boxed w Bn 9 (.string s)) (hT : Tabs w) (hz : n₀ ≤ w.heap.size) (hzB : B ≤ w.heap.size) :
    SeqStopsK Fence.wide n Tryd.prog 60 #[.pointer (some ⟨Bn, 0, none⟩)] (fun x : ItsOf s.data.toList => #[itV x.1.1 x.1.2]) (Rnd n₀ B T)
      (fun xs => xs.map (·.1) = itemsAt 0 (items s.data.toList)) (fun pre => pre.map (·.1) <+: itemsAt 0 (items s.data.toList)) (items s.data.toList).length w := fun l J Jx W hW hJ _ hY h0 =>
  Items_in n hn l Bn n₀ B T ht1 ht2 s hs hBn h2 J Jx W hJ hY (blk_below hc hW) (Tabs.keep hT hW (Nat.le_trans h2 hz)) (Nat.le_trans hz hW.size) (Nat.le_trans hzB hW.size) h0
end Go.Proofs.YtpfnmcgcpgcfjaaDoor
