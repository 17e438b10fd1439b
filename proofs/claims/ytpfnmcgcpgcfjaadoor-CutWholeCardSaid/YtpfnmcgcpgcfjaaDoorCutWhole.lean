/- The walk of tesseralaw12.CutWhole. -/
import Derived.Test.YtpfnmcgcpgcfjaaDoorKnown
import Derived.Test.YtpfnmcgcpgcfjaaDoorMarks
import Derived.Test.YtpfnmcgcpgcfjaaDoorBoolMap
import Derived.Test.YtpfnmcgcpgcfjaaDoorRange
import Derived.Test.YtpfnmcgcpgcfjaaDoorExt
import Derived.Test.YtpfnmcgcpgcfjaaDoorPureStep2
import Derived.Sort.QuietIn
import Derived.StillTailTactics
namespace Tess
open Go Go.RowKit Go.Shelf
theorem ownFrom_upd {β : Type} {F : Nat → Prop} {B : Nat} {w0 : World} (hB : w0.heap.size ≤ B) : OwnFrom B (fun (_ : β) W => Upd F w0 W) :=
  fun _ _ _ _ hs hg hr => ⟨hg.os.trans hs.os, hg.tape.trans hs.tape, hg.output.trans hs.output, Nat.le_trans hs.size hg.size, fun k hk hf => (hg.block k (Nat.lt_of_lt_of_le hk hs.size) (fun e => by have := (hr k e.symm).1; omega)).trans (hs.same k hk hf)⟩
theorem ownFrom_boolMap {β : Type} {B r : Nat} (hr : r < B) (f : β → List Int) : OwnFrom B (fun s W => BoolMap W r (f s)) := by
  rintro s X Y row ⟨es, c, h1, h2, h3⟩ hg hr'
  exact ⟨es, c, (hg.block r (blk_lt h1) (fun e => by have := (hr' r e.symm).1; omega)).trans h1, h2, h3⟩
theorem lit_of {T : Array Value} {n : Nat} (h : T.size = n) : T = ((List.range n).map fun i => T.getD i undef).toArray := by
  subst h
  apply Array.ext
  · simp
  · intro i h1 h2
    simp
    rw [Array.getElem?_eq_getElem h1]
    rfl
theorem chained_nil {d : Dat} {L : List UInt8} {e : Nat} {l : List Tok} {k : Nat} (h : Chained d L e (l.drop k)) (hk : l.length ≤ k) : e = L.length := by
  rw [List.drop_eq_nil_of_le hk] at h
  exact h
theorem chained_cons {d : Dat} {L : List UInt8} {e : Nat} {l : List Tok} {k : Nat} (h : Chained d L e (l.drop k)) (hk : k < l.length) : TokOk d L e (tkAt l k) ∧ Chained d L (tkAt l k).b (l.drop (k + 1)) := by
  rw [List.drop_eq_getElem_cons hk] at h
  have e1 : tkAt l k = l[k] := by simp [tkAt, hk]
  rw [e1]
  exact h
theorem len_le_sizes {l : List It} (h : ∀ x ∈ l, 1 ≤ x.n) : l.length ≤ sizes l := by
  induction l with
  | nil => exact Nat.le_refl _
  | cons x l ih =>
    have h1 := h x (by simp)
    have h2 := ih fun y hy => h y (by simp [hy])
    rw [sizes_cons, List.length_cons]
    omega
theorem items_short (l : List UInt8) : (items l).length ≤ l.length := by
  have := len_le_sizes (l := items l) fun x hx => (items_proper l x hx).1
  rwa [items_sizes] at this
theorem bd_from {L : List UInt8} {m : Nat} (h : Bd L m) : m = L.length ∨ ∃ x ∈ itemsAt 0 (items L), x.1 = m := by
  obtain ⟨ys, zs, h1, rfl⟩ := h
  have key : ∀ (ys zs : List It) (a : Nat), zs ≠ [] → ∃ x ∈ itemsAt a (ys ++ zs), x.1 = a + sizes ys := by
    intro ys
    induction ys with
    | nil =>
      intro zs a hz
      obtain ⟨z, t, rfl⟩ := List.exists_cons_of_ne_nil hz
      exact ⟨(a, z), by simp [itemsAt], rfl⟩
    | cons y ys ih =>
      intro zs a hz
      obtain ⟨x, hx, he⟩ := ih zs (a + y.n) hz
      exact ⟨x, by simp only [List.cons_append, itemsAt]; exact List.mem_cons_of_mem _ hx, by rw [he, sizes_cons]; omega⟩
  by_cases hz : zs = []
  · subst hz
    left
    rw [← items_sizes L, h1, List.append_nil]
  · right
    obtain ⟨x, hx, he⟩ := key ys zs 0 hz
    exact ⟨x, by rw [h1]; exact hx, by omega⟩
theorem put_rnd {n₀ B T : Nat} {W W' : World} (h : Rnd n₀ B T W W') {r : Nat} {ks : List Int} (hm : BoolMap W' r ks) (hr : n₀ ≤ r) (o : Obj) : Rnd n₀ B T W (put W' r o) := by
  obtain ⟨es, c, h1, _⟩ := hm
  refine h.trans ⟨(Upd.refl (fun k => k = r) W' |>.put (.inl rfl) o).below_of (B := n₀) (by have := blk_lt h1; omega) (fun k hk e => by omega), fun k cs t fr _ hk _ => (put_other _ _ _ _ (fun e => ?_)).trans hk⟩
  subst e
  rw [h1] at hk
  cases hk
end Tess
namespace Go.Proofs.YtpfnmcgcpgcfjaaDoor
open Go.RowKit Tess Go.Shelf
attribute [local go_sem] Oper.semAt_some
set_option maxHeartbeats 16000000 in
set_option maxRecDepth 100000 in
theorem law12_CutWhole (w : World) (vw vm va vb vc : Value) (d : Dat) (s : ByteArray) (hD : DataIn w vw vm va vb vc d) (hs : s.size ≤ 140737488355328) (hT : Tabs w) :
    Calls Tryd.prog 3 #[.agg #[vw, vm, va, vb, vc], .string s] w fun e w' => e = .returned (.bool true) ∧ Below w.heap.size w w' := by
  refine (callsIn_wide (n := 5)).1 ?_
  refine callsIn_of_wp_marks Tryd.func3 rfl trivial ?_ rfl
  simp only [Tryd.ntmps3, List.size_toArray, List.length_cons, List.length_nil, Nat.reduceAdd, Nat.reduceSub, Array.replicate_succ, Array.replicate_zero, List.push_toArray, List.append_toArray, List.nil_append, List.cons_append]
  obtain ⟨A1, c1, rfl⟩ := hD.words.form
  obtain ⟨A2, c2, rfl⟩ := hD.merges.form
  obtain ⟨A3, c3, rfl⟩ := hD.letters.form
  obtain ⟨A4, c4, rfl⟩ := hD.numbers.form
  obtain ⟨A5, c5, rfl⟩ := hD.spaces.form
  have hba : Below w.heap.size w ((w.alloc (Obj.cells #[.slice A1 d.words.length c1, .slice A2 d.merges.length c2, .slice A3 d.letters.length c3, .slice A4 d.numbers.length c4, .slice A5 d.spaces.length c5] 26)).alloc (Obj.cells #[.bool false] 4)) := by (repeat (first | with_reducible exact Below.refl _ _ | assumption | refine Below.drew ?_ | refine below_drewN ?_ _ | refine Below.alloc ?_ (by first | omega | (simp; done) | (simp; omega)) _ | refine Below.setCell ?_ (by first | omega | (simp; done) | (simp; omega)) _))
  have hd0 := hD.below hba
  have hbx := Boxed.new (w.alloc (Obj.cells #[.slice A1 d.words.length c1, .slice A2 d.merges.length c2, .slice A3 d.letters.length c3, .slice A4 d.numbers.length c4, .slice A5 d.spaces.length c5] 26)) 4 (.bool false)
  rw [World.size_alloc] at hbx
  have HD0 := Lib.hid hd0
  have HBX := Lib.hid hbx
  have HB0 := Lib.hid hba
  have HT := Lib.hid hT
  clear hd0 hbx hba hT hD
  gi_wp2_with fail
  refine ⟨trivial, (callsIn_wide.2 (keep_Of _ _ _ _ _ _ d HD0.out)).mono ?_⟩
  rintro e W1 ⟨hb1, hor⟩
  have HBX1 := Lib.hid (Boxed.under HBX.out hb1)
  have HB1 := Lib.hid (HB0.out.trans (hb1.mono HB0.out.size))
  have hz1 : w.heap.size + 2 ≤ W1.heap.size := by
    have := hb1.size
    simp at this
    omega
  clear hb1 HD0 HBX HB0
  rcases hor with ⟨g, _, rfl, hm⟩ | ⟨_, rfl⟩
  case inr =>
    have c0 := HBX1.out.cell
    have f0 := HBX1.out.frozen
    gi_wp2_with fail
    refine ⟨trivial, (callsIn_wide.2 (law12_known W1 (Tabs.keep HT.out HB1.out HT.out.two))).mono ?_⟩
    rintro e W2 ⟨rfl, hb2⟩
    have HBX2 := Lib.hid (Boxed.under HBX1.out hb2)
    have HB2 := Lib.hid (HB1.out.trans (hb2.mono HB1.out.size))
    clear hb2 HBX1 HB1 c0 f0
    have c0 := HBX2.out.cell
    have f0 := HBX2.out.frozen
    gi_wp2
    refine ⟨.bool true, by simp [results, Tryd.f3, go_sem, c0], rfl, HB2.out.setCell (p := ⟨w.heap.size + 1, 0, none⟩) (by dsimp only; omega) _⟩
  have HM := Lib.hid hm
  clear hm
  gi_wp2_with fail
  refine ⟨trivial, (callsIn_wide.2 (law12_few W1 s 1000 (by omega) hs)).mono ?_⟩
  rintro e W' ⟨rfl, rfl⟩
  obtain ⟨s', hs'⟩ : ∃ s', (if 1000 < s.size then s.extract 0 1000 else s) = s' := ⟨_, rfl⟩
  have hsz : s'.size ≤ 1000 := by
    rw [← hs']
    split
    · simp; omega
    · omega
  rw [hs']
  clear hs' hs
  gi_wp2_with fail
  refine ⟨trivial, (callsIn_wide.2 (cut_Tokens W1 g d s' (by omega) HM.out (Tabs.keep HT.out HB1.out HT.out.two))).mono ?_⟩
  rintro e W2 ⟨v, rfl, hown, hb2⟩
  have ht := ToksIn.of_owns hown
  obtain ⟨tA, tc, rfl⟩ := ht.form
  have HTK := Lib.hid ht
  have HBX2 := Lib.hid (Boxed.under HBX1.out hb2)
  have HB2 := Lib.hid (HB1.out.trans (hb2.mono HB1.out.size))
  have HM2 := Lib.hid (HM.out.below hb2)
  have hz2 := Nat.le_trans hz1 hb2.size
  clear hown ht hb2 HBX1 HB1 HM hz1
  obtain ⟨l, hl⟩ : ∃ l, tokens d s'.data.toList = l := ⟨_, rfl⟩
  rw [hl] at HTK ⊢
  have hll : l.length ≤ 1000 := by
    have := tokF_len d s'.data.toList.length 0 s'.data.toList
    have e : s'.data.toList.length = s'.size := by rw [Array.length_toList]; rfl
    rw [← hl]
    show (tokF d _ 0 _).length ≤ _
    omega
  have HL := Lib.hid hl
  clear hl
  have hmm := @run_makeMap Tryd.prog
  have hbt := Boxed.new W2 32 (.slice tA l.length tc)
  have hbm0 : BoolMap ((W2.alloc (Obj.cells #[.slice tA l.length tc] 32)).alloc (.map #[] 0)) (W2.heap.size + 1) [] := ⟨#[], 0, by have := blk_new (W2.alloc (Obj.cells #[.slice tA l.length tc] 32)) (.map #[] 0); simpa using this, by simp, by simp⟩
  obtain ⟨o, hup, hbm⟩ := bool_update (P := Tryd.prog) Tryd.underlying36 Tryd.underlying3 _ _ _ (s'.size : Int) hbm0
  have hb3 : Below W2.heap.size W2 (put ((W2.alloc (Obj.cells #[.slice tA l.length tc] 32)).alloc (.map #[] 0)) (W2.heap.size + 1) o) :=
    (Upd.put (F := fun _ => False) (((Upd.refl _ W2).alloc _).alloc _) (.inr (Nat.le_succ _)) o).below
  have hz3 : (put ((W2.alloc (Obj.cells #[.slice tA l.length tc] 32)).alloc (.map #[] 0)) (W2.heap.size + 1) o).heap.size = W2.heap.size + 2 := by rw [put_size]; simp
  have hbt3 : Boxed (put ((W2.alloc (Obj.cells #[.slice tA l.length tc] 32)).alloc (.map #[] 0)) (W2.heap.size + 1) o) W2.heap.size 32 (.slice tA l.length tc) :=
    (put_other _ _ _ _ (by omega)).trans (hbt.alloc (.map #[] 0))
  clear hbm0 hbt
  have HBM := Lib.hid hbm
  have HB23 := Lib.hid hb3
  have HBT := Lib.hid hbt3
  clear hbm hb3 hbt3
  generalize put ((W2.alloc (Obj.cells #[.slice tA l.length tc] 32)).alloc (.map #[] 0)) (W2.heap.size + 1) o = W3 at hup HBM HB23 HBT hz3
  gi_wp2_with fail
  refine ⟨trivial, (callsIn_wide.2 (utf_Items _ _)).mono ?_⟩
  rintro e W' ⟨rfl, rfl⟩
  have hb4 : Below W3.heap.size W3 ((W3.alloc (Obj.cells #[.map (some (W2.heap.size + 1))] 36)).alloc (Obj.cells #[.string s'] 9)) := by (repeat (first | with_reducible exact Below.refl _ _ | assumption | refine Below.drew ?_ | refine below_drewN ?_ _ | refine Below.alloc ?_ (by first | omega | (simp; done) | (simp; omega)) _ | refine Below.setCell ?_ (by first | omega | (simp; done) | (simp; omega)) _))
  obtain ⟨t, ht5', htab, hrd⟩ := model_cell5 HM2.out
  have ht5 := cell_below (HB23.out.trans (hb4.mono (by omega))) ht5'
  clear ht5'
  have HTAB := Lib.hid htab
  have HRD := Lib.hid hrd
  clear htab hrd hb4
  gi_wp2_with fail
  refine ⟨trivial, (callsIn_wide.2 (model_Table _ g t ht5)).mono ?_⟩
  rintro e W' ⟨rfl, rfl⟩
  have hfn : ∀ x W, (binOp .eql 38 (.func (.func 60) #[] #[x]) .nilFunc).run Tryd.prog W = .ok (.bool false) W := fun _ _ => by kernel_rfl
  gi_wp2_with fail
  have hsm : Boxed ((W3.alloc (Obj.cells #[.map (some (W2.heap.size + 1))] 36)).alloc (Obj.cells #[.string s'] 9)) W3.heap.size 36 (.map (some (W2.heap.size + 1))) := (Boxed.new _ _ _).alloc _
  obtain ⟨W5, hW5⟩ : ∃ W5, ((W3.alloc (Obj.cells #[.map (some (W2.heap.size + 1))] 36)).alloc (Obj.cells #[.string s'] 9)).alloc (Obj.cells #[.pointer (some ⟨t, 0, none⟩)] 40) = W5 := ⟨_, rfl⟩
  have hb5 : Below W3.heap.size W3 W5 := by rw [← hW5]; (repeat (first | with_reducible exact Below.refl _ _ | assumption | refine Below.drew ?_ | refine below_drewN ?_ _ | refine Below.alloc ?_ (by first | omega | (simp; done) | (simp; omega)) _ | refine Below.setCell ?_ (by first | omega | (simp; done) | (simp; omega)) _))
  have hz5 : W5.heap.size = W2.heap.size + 5 := by rw [← hW5]; simp [hz3]
  have bm := (((Boxed.new W3 36 (.map (some (W2.heap.size + 1)))).alloc (Obj.cells #[.string s'] 9)).alloc (Obj.cells #[.pointer (some ⟨t, 0, none⟩)] 40))
  have bs := (Boxed.new (W3.alloc (Obj.cells #[.map (some (W2.heap.size + 1))] 36)) 9 (.string s')).alloc (Obj.cells #[.pointer (some ⟨t, 0, none⟩)] 40)
  have bt := Boxed.new ((W3.alloc (Obj.cells #[.map (some (W2.heap.size + 1))] 36)).alloc (Obj.cells #[.string s'] 9)) 40 (.pointer (some ⟨t, 0, none⟩))
  simp only [World.size_alloc, hz3] at bs bt
  rw [hz3] at bm
  rw [hW5] at bm bs bt ⊢
  have HBM5 := Lib.hid (HBM.out.below hb5)
  have HBT5 := Lib.hid (Boxed.under HBT.out hb5)
  have HB25 := Lib.hid (HB23.out.trans (hb5.mono (by omega)))
  have HT5 := Lib.hid (Tabs.keep HT.out (HB2.out.trans (HB25.out.mono HB2.out.size)) HT.out.two)
  have h2 := HT.out.two
  have HBMX := Lib.hid bm
  have HBSX := Lib.hid bs
  have HBTX := Lib.hid bt
  clear hsm hW5 hb5 HBM HBT HB23 bm bs bt
  refine range_items (n := 5) (by omega) (W2.heap.size + 2 + 1) (W2.heap.size + 1) (W2.heap.size + 2) 0 13 (by decide) (by decide) s' (by omega) rfl (by omega) (by omega) HBSX.out HT5.out (by omega) (by omega)
    (fun pre W => BoolMap W (W2.heap.size + 1) ((pre.map fun x => (x.1.1 : Int)).reverse ++ [(s'.size : Int)]) ∧ Upd (fun k => k = W2.heap.size + 1) W5 W)
    (fun _ _ _ => False)
    (OwnFrom.and (ownFrom_boolMap (by omega) _) (ownFrom_upd (Nat.le_refl _)))
    (fun _ _ _ _ _ hs _ _ => hs)
    ⟨by simpa using HBM5.out, Upd.refl _ _⟩ ?assign ?own ?body ?done ?stop
  case own => exact fun pre W h => h.2.size
  case stop =>
    rintro D c pre W _ _ h _
    exact h.elim
  case assign =>
    rintro l' pre x W K ⟨h1, h2⟩ h3 hK
    unfold itV
    gi_wp2
    have hba : Below W.heap.size W (W.alloc (Obj.cells #[.int .i64 (x.1.1 : Nat), .int .i64 (x.1.2.n : Nat), .int .i32 (x.1.2.r : Nat), .bool x.1.2.bad] 43)) := (Below.refl _ _).alloc (Nat.le_refl _) _
    exact hK _ _ ((KeepsOthers.alloc _ _).from _) ((Rnd.refl _ _ _ _).alloc (by omega) _) ⟨h1.below hba, h2.alloc _⟩ ⟨W.heap.size, h3, blk_new _ _, rfl⟩
  case body =>
    rintro l' pre x a' W ⟨hm, hu⟩ ⟨Bx, hBx, bX, rfl⟩ hlt
    have c0 := (hu.blk HBMX.out (by omega) |> fun h => blk_cell h 0).trans (rfl : _ = some (Value.map (some (W2.heap.size + 1))))
    have x0 := (blk_cell bX 0).trans (rfl : _ = some (Value.int .i64 (x.1.1 : Nat)))
    obtain ⟨o, hup, hbm⟩ := bool_update (P := Tryd.prog) Tryd.underlying36 Tryd.underlying3 _ _ _ ((x.1.1 : Nat) : Int) hm
    have HM' := Lib.hid hbm
    have HMM := Lib.hid hm
    have HU := Lib.hid hu
    clear hm hu hbm bX
    unfold itV
    gi_wp2
    refine ⟨⟨by rw [put_size]; exact Nat.le_refl _, fun k o' hB hk _ => (put_other _ _ _ _ (by omega)).trans hk⟩, put_rnd (Rnd.refl _ _ _ _) HMM.out (Nat.le_refl _) _, ?_, HU.out.put (.inl rfl) _⟩
    simpa using HM'.out
  case done =>
    rintro D xs W hD hits hxs ⟨hm, hu⟩ hDW
    have HMM := Lib.hid hm
    have HU := Lib.hid hu
    have HITS := Lib.hid hits
    have HXS := Lib.hid hxs
    have HDW := Lib.hid hDW
    clear hm hu hits hxs hDW
    gi_wp2
    have hzW : W5.heap.size ≤ W.heap.size := HU.out.size
    have hbi0 := Boxed.new W 3 (.int .i64 0)
    have hba : Below W.heap.size W (W.alloc (Obj.cells #[.int .i64 0] 3)) := (Below.refl _ _).alloc (Nat.le_refl _) _
    have hch : Chained d s'.data.toList 0 l := by rw [← HL.out]; exact tokens_chained d _
    refine wpIn_loop (I := fun a wr => ∃ (k e Bi : Nat) (Ds : List Nat), (a.tmps.size = 201 ∧ a.tmps.getD 1 undef = .string s' ∧ a.tmps.getD 4 undef = .pointer (some ⟨w.heap.size + 1, 0, none⟩) ∧ a.tmps.getD 8 undef = .pointer (some ⟨W2.heap.size, 0, none⟩) ∧ a.tmps.getD 10 undef = .pointer (some ⟨W2.heap.size + 2, 0, none⟩) ∧ a.tmps.getD 12 undef = .pointer (some ⟨W2.heap.size + 2 + 1 + 1, 0, none⟩) ∧ a.tmps.getD 14 undef = .int .i64 (e : Nat) ∧ a.tmps.getD 15 undef = .pointer (some ⟨Bi, 0, none⟩) ∧ a.defers = Ds.map fun D => { target := .collected D, args := #[] }) ∧
        Ds.length = k + 1 ∧ k ≤ l.length ∧ Chained d s'.data.toList e (l.drop k) ∧ Boxed wr Bi 3 (.int .i64 (k : Nat)) ∧ W.heap.size ≤ Bi ∧ Below W.heap.size W wr ∧ (∀ D ∈ Ds, W5.heap.size ≤ D ∧ wr.heap[D]? = some (.deferred (some []))) ∧ Ds.Nodup)
      (μ := fun a _ => l.length + 1 - a.defers.length)
      ⟨0, 0, W.heap.size, [D], ⟨rfl, rfl, rfl, rfl, rfl, rfl, rfl, rfl, rfl⟩, rfl, Nat.zero_le _, hch, hbi0, Nat.le_refl _, hba, fun D' hD' => ?_, by simp⟩ ?_
    case refine_1 =>
      rw [List.mem_singleton] at hD'
      subst hD'
      exact ⟨hD, blk_old HDW.out _⟩
    clear hbi0 hba hch
    rintro ⟨T, ds⟩ wr ⟨k, e, Bi, Ds, ⟨hsz', t1, t4, t8, t10, t12, t14, t15, hds⟩, hDs, hk, hch, hbi, hBi, hbw, hDD, hnd⟩
    dsimp only at hsz' t1 t4 t8 t10 t12 t14 t15 hds
    have hT := lit_of hsz'
    obtain ⟨f, hf⟩ : ∃ f : Nat → Value, (fun i => T.getD i undef) = f := ⟨_, rfl⟩
    rw [hf] at hT
    rw [show T.getD 1 undef = f 1 from congrFun hf 1] at t1
    rw [show T.getD 4 undef = f 4 from congrFun hf 4] at t4
    rw [show T.getD 8 undef = f 8 from congrFun hf 8] at t8
    rw [show T.getD 10 undef = f 10 from congrFun hf 10] at t10
    rw [show T.getD 12 undef = f 12 from congrFun hf 12] at t12
    rw [show T.getD 14 undef = f 14 from congrFun hf 14] at t14
    rw [show T.getD 15 undef = f 15 from congrFun hf 15] at t15
    rw [show (List.range 201).map f = [f 0, f 1, f 2, f 3, f 4, f 5, f 6, f 7, f 8, f 9, f 10, f 11, f 12, f 13, f 14, f 15, f 16, f 17, f 18, f 19, f 20, f 21, f 22, f 23, f 24, f 25, f 26, f 27, f 28, f 29, f 30, f 31, f 32, f 33, f 34, f 35, f 36, f 37, f 38, f 39, f 40, f 41, f 42, f 43, f 44, f 45, f 46, f 47, f 48, f 49, f 50, f 51, f 52, f 53, f 54, f 55, f 56, f 57, f 58, f 59, f 60, f 61, f 62, f 63, f 64, f 65, f 66, f 67, f 68, f 69, f 70, f 71, f 72, f 73, f 74, f 75, f 76, f 77, f 78, f 79, f 80, f 81, f 82, f 83, f 84, f 85, f 86, f 87, f 88, f 89, f 90, f 91, f 92, f 93, f 94, f 95, f 96, f 97, f 98, f 99, f 100, f 101, f 102, f 103, f 104, f 105, f 106, f 107, f 108, f 109, f 110, f 111, f 112, f 113, f 114, f 115, f 116, f 117, f 118, f 119, f 120, f 121, f 122, f 123, f 124, f 125, f 126, f 127, f 128, f 129, f 130, f 131, f 132, f 133, f 134, f 135, f 136, f 137, f 138, f 139, f 140, f 141, f 142, f 143, f 144, f 145, f 146, f 147, f 148, f 149, f 150, f 151, f 152, f 153, f 154, f 155, f 156, f 157, f 158, f 159, f 160, f 161, f 162, f 163, f 164, f 165, f 166, f 167, f 168, f 169, f 170, f 171, f 172, f 173, f 174, f 175, f 176, f 177, f 178, f 179, f 180, f 181, f 182, f 183, f 184, f 185, f 186, f 187, f 188, f 189, f 190, f 191, f 192, f 193, f 194, f 195, f 196, f 197, f 198, f 199, f 200] from rfl, t1, t4, t8, t10, t12, t14, t15] at hT
    subst hT hds
    clear hf hsz' t1 t4 t8 t10 t12 t14 t15
    have HDS := Lib.hid hDs
    have HCH := Lib.hid hch
    have HBI := Lib.hid hbi
    have HBW := Lib.hid hbw
    have HDD := Lib.hid hDD
    have HND := Lib.hid hnd
    have hup : Upd (fun k => k = W2.heap.size + 1) W5 wr := HU.out.then (Upd.of_below (F := fun _ => False) hbw) (fun _ _ h => h.elim)
    have HUP := Lib.hid hup
    have c15 := hbi.cell
    have c8 := (hup.blk HBT5.out (by omega) |> fun h => blk_cell h 0).trans (rfl : _ = some (Value.slice tA l.length tc))
    have c10 := (hup.blk HBMX.out (by omega) |> fun h => blk_cell h 0).trans (rfl : _ = some (Value.map (some (W2.heap.size + 1))))
    have c12 := (hup.blk HBTX.out (by omega) |> fun h => blk_cell h 0).trans (rfl : _ = some (Value.pointer (some ⟨t, 0, none⟩)))
    have hlen : s'.data.toList.length = s'.size := by rw [Array.length_toList]; rfl
    clear hDs hbi hbw hDD hnd hup
    by_cases hlt : k < l.length
    case neg =>
      have he : e = s'.size := by rw [← hlen]; exact chained_nil hch (by omega)
      subst he
      have hd : decide (k < l.length) = false := by simpa using hlt
      have HTW := Lib.hid (Tabs.keep (Tabs.keep HT.out HB2.out HT.out.two) (HB25.out.trans ((HUP.out.below_of (B := W2.heap.size) (by omega) (fun k hk e => by omega)).mono (Nat.le_refl _))) (by omega))
      clear hch hlt
      gi_wp2_with fail
      refine ⟨trivial, (callsIn_wide.2 (law12_known wr HTW.out)).mono ?_⟩
      rintro e W9 ⟨rfl, hb9⟩
      have HBX9 := Lib.hid (Boxed.under (HUP.out.blk (Boxed.under HBX2.out HB25.out) (by omega)) hb9)
      have HB9 := Lib.hid ((HB2.out.trans (HB25.out.mono HB2.out.size)).trans ((HUP.out.below_of (B := w.heap.size) (by omega) (fun k hk e => by omega)).trans (hb9.mono (by have := HUP.out.size; omega))))
      have HDD9 := Lib.hid (fun D hD => ⟨(HDD.out D hD).1, blk_below (HDD.out D hD).2 hb9⟩ : ∀ D ∈ Ds, W5.heap.size ≤ D ∧ W9.heap[D]? = some (.deferred (some [])))
      have c4 := HBX9.out.cell
      have f4 := HBX9.out.frozen
      clear hb9 c15 c8 c10 c12 HDD HUP HBI HBW
      gi_wp2
      have hbr := HBX9.out.set (.bool true)
      have hDr : ∀ D ∈ Ds, W5.heap.size ≤ D ∧ (W9.setCell ⟨w.heap.size + 1, 0, none⟩ (.bool true)).heap[D]? = some (.deferred (some [])) := fun D hD => ⟨(HDD9.out D hD).1, blk_other (HDD9.out D hD).2 _ _ (by have := (HDD9.out D hD).1; show D ≠ w.heap.size + 1; omega)⟩
      refine leaves_all W5.heap.size Ds _ hDr HND.out fun W' hs => ?_
      have c9 := (Boxed.cell (hs.same _ _ _ _ hbr) : W'.cell? ⟨w.heap.size + 1, 0, none⟩ = some (.bool true))
      refine ⟨.bool true, by simp [results, Tryd.f3, go_sem, c9], rfl, ?_⟩
      exact (HB9.out.setCell (p := ⟨w.heap.size + 1, 0, none⟩) (by dsimp only; omega) _).trans (hs.below.mono (by omega))
    case pos =>
      have hd : decide (k < l.length) = true := by simpa using hlt
      obtain ⟨tk, hTK'⟩ := chained_cons hch hlt
      obtain ⟨q, hq⟩ : ∃ q, tkAt l k = q := ⟨_, rfl⟩
      obtain ⟨tb, toff, rfl, y0, y1, y2⟩ := (HTK.out.below (HB25.out.trans ((HUP.out.below_of (B := W2.heap.size) (by omega) (fun k hk e => by omega)).mono (Nat.le_refl _)))).at_ k hlt
      rw [hq] at y0 y1 y2 tk hTK'
      have hqa := tk.a
      have hqlt := tk.lt
      have hqle := tk.le
      have hs1 := tk.s1
      have hs2 := tk.s2
      rw [hlen] at hqle
      obtain ⟨⟨qa, qb, qs⟩, hqq⟩ : ∃ q', q = q' := ⟨_, rfl⟩
      subst hqq
      dsimp only at y0 y1 y2 hqa hqlt hqle hs1 hs2
      subst hqa
      have HQ := Lib.hid hq
      have HTKO := Lib.hid tk
      have HCH' := Lib.hid hTK'
      have hlk : ∀ n, (Instr.lookup 36 (.map (some (W2.heap.size + 1))) (.int .i64 (qb : Nat)) false).run Tryd.prog (wr.drewN n) = .ok (.bool true) (wr.drewN n) := by
        intro n
        have hz0 : ∀ w, (zeroValue 4).run Tryd.prog w = .ok (.bool false) w := fun _ => by kernel_rfl
        have hmr := HMM.out.below (HBW.out.trans (below_drewN (Below.refl _ wr) n |> fun h => h.mono HBW.out.size))
        rw [bool_lookup Tryd.underlying36 Tryd.underlying3 hz0 _ _ _ _ hmr]
        congr 2
        simp only [decide_eq_true_eq, List.mem_append, List.mem_reverse, List.mem_map, List.mem_singleton]
        rcases bd_from tk.bd with h | ⟨x, hx, hxa⟩
        · exact .inr (by rw [hlen] at h; dsimp only at h; omega)
        · rw [← HXS.out] at hx
          obtain ⟨y, hy, rfl⟩ := List.mem_map.1 hx
          exact .inl ⟨y, hy, by dsimp only at hxa; omega⟩
      clear hq tk hTK' hch HCH
      have d1 : ((qa : Int) != (qa : Int)) = false := by simp
      have d2 : decide (qb ≤ qa) = false := by simp; omega
      have d3 : decide (s'.size < qb) = false := by simp; omega
      have d4 : decide ((qs : Int) < 1) = false := by simp; omega
      have d5 : decide ((5 : Int) < (qs : Int)) = false := by simp; omega
      gi_wp2
      gi_quiet (fail)
      gi_wp2
      obtain ⟨W7, hW7⟩ : ∃ W7, (((wr.drewN nq).alloc (Obj.cells #[.int .i64 0, .int .i64 0, .int .i64 1, .int .i64 2, .int .i64 4, .int .i64 3] 3)).alloc (Obj.cells #[.slice (some ⟨wr.heap.size, 0, none⟩) 6 6] 48)).alloc (Obj.cells #[.int .i64 0] 3) = W7 := ⟨_, rfl⟩
      have hb7 : Below wr.heap.size wr W7 := by rw [← hW7]; (repeat (first | with_reducible exact Below.refl _ _ | assumption | refine Below.drew ?_ | refine below_drewN ?_ _ | refine Below.alloc ?_ (by first | omega | (simp; done) | (simp; omega)) _ | refine Below.setCell ?_ (by first | omega | (simp; done) | (simp; omega)) _))
      have hz7 : W7.heap.size = wr.heap.size + 3 := by rw [← hW7]; simp
      have bk := blk_old (blk_old (blk_new (wr.drewN nq) (Obj.cells #[.int .i64 0, .int .i64 0, .int .i64 1, .int .i64 2, .int .i64 4, .int .i64 3] 3)) (Obj.cells #[.slice (some ⟨wr.heap.size, 0, none⟩) 6 6] 48)) (Obj.cells #[.int .i64 0] 3)
      have bkb := (Boxed.new ((wr.drewN nq).alloc (Obj.cells #[.int .i64 0, .int .i64 0, .int .i64 1, .int .i64 2, .int .i64 4, .int .i64 3] 3)) 48 (.slice (some ⟨wr.heap.size, 0, none⟩) 6 6)).alloc (Obj.cells #[.int .i64 0] 3)
      have bn := Boxed.new (((wr.drewN nq).alloc (Obj.cells #[.int .i64 0, .int .i64 0, .int .i64 1, .int .i64 2, .int .i64 4, .int .i64 3] 3)).alloc (Obj.cells #[.slice (some ⟨wr.heap.size, 0, none⟩) 6 6] 48)) 3 (.int .i64 0)
      simp only [World.size_alloc] at bkb bn
      rw [hW7] at bk bkb bn ⊢
      change W7.heap[wr.heap.size]? = _ at bk
      change Boxed W7 (wr.heap.size + 1) _ _ at bkb
      change Boxed W7 (wr.heap.size + 1 + 1) _ _ at bn
      have z15 := cell_below hb7 c15
      have z8 := cell_below hb7 c8
      have z12 := cell_below hb7 c12
      have zy0 := cell_below hb7 y0
      have zy1 := cell_below hb7 y1
      have zy2 := cell_below hb7 y2
      have HB7 := Lib.hid hb7
      have HBI7 := Lib.hid (Boxed.under HBI.out hb7)
      have HBK := Lib.hid bk
      have HBKB := Lib.hid bkb
      have HBN := Lib.hid bn
      have hBi7 : Bi < wr.heap.size := HBI.out.lt
      clear hb7 c15 c8 c10 c12 y0 y1 y2 hlk bk bkb bn hW7 d1 d2 d3 d4 d5
      have hqa0 : (0 : Int) ≤ (qa : Int) := by omega
      have hqab : (qa : Int) ≤ (qb : Int) := by omega
      have hqbs : (qb : Int) ≤ (s'.size : Int) := by omega
      refine wpIn_wide.2 ?_
      go_still_tail 14, (by kernel_rfl)
      change wpList _ _ _ _ _ W7.drew
      clear z15 z8 zy0 zy1 zy2
      go_wp2_with (go_at_call 18; refine (utf_Items _ _).mono ?_; rintro e w' ⟨rfl, rfl⟩)
      have hfn2 : ∀ x W, (binOp .eql 38 (.func (.func 60) #[] #[x]) .nilFunc).run Tryd.prog W = .ok (.bool false) W := fun _ _ => by kernel_rfl
      gi_wp2
      obtain ⟨W8, hW8⟩ : ∃ W8, (W7.alloc (Obj.cells #[.string (s'.extract qa qb)] 9)).drew = W8 := ⟨_, rfl⟩
      have hb8 : Below W7.heap.size W7 W8 := by rw [← hW8]; (repeat (first | with_reducible exact Below.refl _ _ | assumption | refine Below.drew ?_ | refine below_drewN ?_ _ | refine Below.alloc ?_ (by first | omega | (simp; done) | (simp; omega)) _ | refine Below.setCell ?_ (by first | omega | (simp; done) | (simp; omega)) _))
      have hz8 : W8.heap.size = wr.heap.size + 4 := by rw [← hW8]; simp [hz7]
      have bs8 : Boxed W8 W7.heap.size 9 (.string (s'.extract qa qb)) := by rw [← hW8]; exact Boxed.new W7 9 (.string (s'.extract qa qb))
      rw [hW8]
      rw [hz7] at bs8
      have HBS8 := Lib.hid bs8
      have HBN8 := Lib.hid (Boxed.under HBN.out hb8)
      have HBK8 := Lib.hid (blk_below HBK.out hb8)
      have HBKB8 := Lib.hid (Boxed.under HBKB.out hb8)
      have HB8 := Lib.hid (HB7.out.trans (hb8.mono (by omega)))
      have HB2r := Lib.hid (HB25.out.trans (HUP.out.below_of (B := W2.heap.size) (by omega) (fun k hk e => by omega)))
      have hs2 : (s'.extract qa qb).size ≤ 1000 := by simp; omega
      have HT8 := Lib.hid (Tabs.keep HT.out ((HB2.out.trans (HB2r.out.mono HB2.out.size)).trans (HB8.out.mono (by have := HUP.out.size; omega))) HT.out.two)
      clear hb8 bs8 HBN HBK HBKB HB7 hW8
      refine range_items (n := 5) (by omega) (wr.heap.size + 3) (wr.heap.size + 2) (wr.heap.size + 3) 0 19 (by decide) (by decide) (s'.extract qa qb) (by omega) rfl (by omega) (by have := HUP.out.size; omega) HBS8.out HT8.out (by omega) (by omega)
        (fun pre W => Boxed W (wr.heap.size + 2) 3 (.int .i64 (pre.length : Nat)) ∧ Upd (fun k => k = wr.heap.size + 2) W8 W)
        (fun c (pre : List (ItsOf (s'.extract qa qb).data.toList)) _ => c = .ret ∧ ∃ (q : List (ItsOf (s'.extract qa qb).data.toList)) (x : ItsOf (s'.extract qa qb).data.toList), pre = q ++ [x] ∧ qs ≠ 1 ∧ ¬ (q = [] ∧ x.1.2.bad = false ∧ x.1.2.r = 32) ∧ kind d x.1.2 ≠ kt qs)
        (OwnFrom.and (Own.from (boxed_own (wr.heap.size + 2) 3 (fun pre : List (ItsOf (s'.extract qa qb).data.toList) => (Value.int .i64 (pre.length : Nat)))) _) (ownFrom_upd (Nat.le_refl _)))
        (fun _ _ _ _ _ hs _ _ => hs)
        ⟨HBN8.out, Upd.refl _ _⟩ ?assign2 ?own2 ?body2 ?done2 ?stop2
      case own2 => exact fun pre W h => h.2.size
      case assign2 =>
        rintro l' pre x W' K ⟨h1, h2⟩ h3 hK
        unfold itV
        gi_wp2
        have hba : Below W'.heap.size W' (W'.alloc (Obj.cells #[.int .i64 (x.1.1 : Nat), .int .i64 (x.1.2.n : Nat), .int .i32 (x.1.2.r : Nat), .bool x.1.2.bad] 43)) := (Below.refl _ _).alloc (Nat.le_refl _) _
        exact hK _ _ ((KeepsOthers.alloc _ _).from _) ((Rnd.refl _ _ _ _).alloc (by omega) _) ⟨h1.alloc _, h2.alloc _⟩ ⟨W'.heap.size, h3, blk_new _ _, rfl⟩
      case stop2 =>
        rintro D' c pre W' _ ⟨tl, htl⟩ ⟨rfl, q, x, rfl, hq1, hnf, hk⟩ _
        exfalso
        have hks := HTKO.out.kinds
        dsimp only at hks
        have hex : (s'.extract qa qb).data.toList = (s'.data.toList.drop qa).take (qb - qa) := by
          rw [ByteArray.data_extract, Array.toList_extract]
        rw [← hex, htl] at hks
        have := hks hq1 q.length x.1.2 (by simp [its])
        rcases this with ⟨h0, h1, h2⟩ | h3
        · exact hnf ⟨List.length_eq_zero_iff.1 h0, h1, h2⟩
        · exact hk h3
      case done2 =>
        rintro D' xs W' hD' _ _ ⟨hbn, hu⟩ hDW'
        have hbw' : Below wr.heap.size wr W' := HB8.out.trans (hu.below_of (B := wr.heap.size) (by omega) (fun k hk e => by omega))
        have HBW' := Lib.hid hbw'
        have hbi' : Boxed W' Bi 3 (.int .i64 (k : Nat)) := (hbw'.block Bi hBi7).trans HBI.out
        have HBI' := Lib.hid hbi'
        have HDW' := Lib.hid hDW'
        have c15 := hbi'.cell
        have hw1 : IntKind.i64.wrap ((k : Int) + 1) = ((k + 1 : Nat) : Int) := by rw [Go.IntWalk.i64_in _ (by omega)]; push_cast; rfl
        clear hbi' hbw' hu hDW' hbn
        gi_wp2
        have hbi1 := Boxed.new W' 3 (.int .i64 ((k : Int) + 1))
        have hlast : ∀ D ∈ Ds, D < wr.heap.size := fun D hD => blk_lt (HDD.out D hD).2
        refine ⟨⟨k + 1, qb, W'.heap.size, D' :: Ds, ⟨rfl, rfl, rfl, rfl, rfl, rfl, rfl, rfl, rfl⟩, by rw [List.length_cons, HDS.out], by omega, HCH'.out, by rw [Int.natCast_add]; exact hbi1, ?_, ?_, ?_, ?_⟩, ?_⟩
        · have := HBW.out.size; have := HBW'.out.size; omega
        · exact (HBW.out.trans (HBW'.out.mono HBW.out.size)).alloc (by have := HBW.out.size; have := HBW'.out.size; omega) _
        · intro D hD
          rcases List.mem_cons.1 hD with rfl | hD
          · exact ⟨by have := HUP.out.size; omega, blk_old HDW'.out _⟩
          · exact ⟨(HDD.out D hD).1, blk_old (blk_below (HDD.out D hD).2 HBW'.out) _⟩
        · rw [List.nodup_cons]
          exact ⟨fun h => by have := hlast _ h; omega, HND.out⟩
        · simp only [List.length_cons, List.length_map, HDS.out]
          omega
      case body2 =>
        rintro l' pre x a' W' ⟨hbn, hu⟩ ⟨Bx, hBx, bX, rfl⟩ hpl
        have hpl2 : pre.length < 1000 := by
          have h1 := items_short (s'.extract qa qb).data.toList
          have h2 : (s'.extract qa qb).data.toList.length = (s'.extract qa qb).size := by rw [Array.length_toList]; rfl
          omega
        have hitr := (itemsAt_mem 0 x.2).2.2.2.2
        obtain ⟨⟨xa, ⟨xn, xr, xb⟩⟩, hxm⟩ := x
        dsimp only at bX hitr
        have hWlt : W8.heap.size ≤ W'.heap.size := hu.size
        have hbW : Below wr.heap.size wr W' := HB8.out.trans (hu.below_of (B := wr.heap.size) (by omega) (fun k hk e => by omega))
        have z17 := hbn.cell
        have zf17 := hbn.frozen
        have zx2 := (blk_cell bX 2).trans (rfl : _ = some (Value.int .i32 (xr : Nat)))
        have zx3 := (blk_cell bX 3).trans (rfl : _ = some (Value.bool xb))
        have hw1 : IntKind.i64.wrap ((pre.length : Int) + 1) = ((pre.length + 1 : Nat) : Int) := by rw [Go.IntWalk.i64_in _ (by omega)]; push_cast; rfl
        obtain ⟨W9, hW9⟩ : ∃ W9, W'.setCell ⟨wr.heap.size + 1 + 1, 0, none⟩ (.int .i64 ((pre.length + 1 : Nat) : Int)) = W9 := ⟨_, rfl⟩
        have hW9' : W'.setCell ⟨wr.heap.size + 1 + 1, 0, none⟩ (.int .i64 ((pre.length : Int) + 1)) = W9 := by rw [← hW9]; congr 2
        have hu9 : Upd (fun k => k = wr.heap.size + 2) W8 W9 := by rw [← hW9]; exact hu.setCell (.inl rfl) _
        have hb9 : Below wr.heap.size wr W9 := HB8.out.trans (hu9.below_of (B := wr.heap.size) (by omega) (fun k hk e => by omega))
        have hbn9 : Boxed W9 (wr.heap.size + 2) 3 (.int .i64 ((pre.length + 1 : Nat) : Int)) := by rw [← hW9]; exact hbn.set _
        have bX9 : W9.heap[Bx]? = some (Obj.cells #[.int .i64 (xa : Nat), .int .i64 (xn : Nat), .int .i32 (xr : Nat), .bool xb] 43 (0, 0)) := by rw [← hW9]; exact blk_other bX _ _ (by show Bx ≠ wr.heap.size + 1 + 1; omega)
        have hr9 : Rnd (wr.heap.size + 2) (wr.heap.size + 3) 0 W' W9 := by rw [← hW9]; exact (Rnd.refl _ _ _ _).setCell (p := ⟨wr.heap.size + 1 + 1, 0, none⟩) (Nat.le_refl _) (by show wr.heap.size + 1 + 1 < wr.heap.size + 3; omega) _
        have hk9 : KeepsOthers W' W9 := by rw [← hW9]; exact KeepsOthers.setCell _ _ _
        have HU9 := Lib.hid hu9
        have HBN9 := Lib.hid hbn9
        have HR9 := Lib.hid hr9
        have HK9 := Lib.hid hk9
        have e8 := Ext.cell ((hb9.cell (p := ⟨W2.heap.size, 0, none⟩) (by show W2.heap.size < _; have := HUP.out.size; omega)).trans ((HUP.out.blk HBT5.out (by omega) |> fun h => blk_cell h 0).trans (rfl : _ = some (Value.slice (some ⟨tb, toff, none⟩) l.length tc))))
        have e12 := Ext.cell ((hb9.cell (p := ⟨W2.heap.size + 2 + 1 + 1, 0, none⟩) (by show W2.heap.size + 2 + 1 + 1 < _; have := HUP.out.size; omega)).trans ((HUP.out.blk HBTX.out (by omega) |> fun h => blk_cell h 0).trans (rfl : _ = some (Value.pointer (some ⟨t, 0, none⟩)))))
        have e15 := Ext.cell ((hb9.cell (p := ⟨Bi, 0, none⟩) hBi7).trans HBI.out.cell)
        have e16 := Ext.cell ((HU9.out.blk HBKB8.out (by omega) |> fun h => blk_cell h 0).trans (rfl : _ = some (Value.slice (some ⟨wr.heap.size, 0, none⟩) 6 6)))
        have hkc : ∀ i v, (#[Value.int .i64 0, .int .i64 0, .int .i64 1, .int .i64 2, .int .i64 4, .int .i64 3] : Array Value)[i]? = some v → ∀ e : Ext W9, e.w.cell? ⟨wr.heap.size, i, none⟩ = some v := fun i v h => Ext.cell ((HU9.out.blk HBK8.out (by omega) |> fun h => blk_cell h i).trans h)
        have hck := HTK.out.below (HB2r.out.trans (hb9.mono (by have := HUP.out.size; omega)))
        obtain ⟨tb', toff', htb', _, _, zy2⟩ := hck.at_ k hlt
        cases htb'
        rw [HQ.out] at zy2
        dsimp only at zy2
        have ey2 := Ext.cell zy2
        have ex0 := Ext.cell ((blk_cell bX9 0).trans (rfl : _ = some (Value.int .i64 (xa : Nat))))
        have ex1 := Ext.cell ((blk_cell bX9 1).trans (rfl : _ = some (Value.int .i64 (xn : Nat))))
        have ex2 := Ext.cell ((blk_cell bX9 2).trans (rfl : _ = some (Value.int .i32 (xr : Nat))))
        have ex3 := Ext.cell ((blk_cell bX9 3).trans (rfl : _ = some (Value.bool xb)))
        have HTB9 := Lib.hid (fun e : Ext W9 => HTAB.out.below ((HB2r.out.trans (hb9.mono (by have := HUP.out.size; omega))).trans (e.h.mono (by have := hb9.size; have := HUP.out.size; omega))))
        have e4 := Ext.cell ((hb9.cell (p := ⟨w.heap.size + 1, 0, none⟩) (by show w.heap.size + 1 < _; have := HUP.out.size; omega)).trans (Boxed.cell (Boxed.under HBX2.out HB2r.out)))
        have ef4 := Ext.frozen (W := W9) (p := ⟨w.heap.size + 1, 0, none⟩) (by show w.heap.size + 1 < W9.heap.size; have := hu9.size; have := HUP.out.size; omega) ((hb9.frozen (p := ⟨w.heap.size + 1, 0, none⟩) (by show w.heap.size + 1 < _; have := HUP.out.size; omega)).trans (Boxed.frozen (Boxed.under HBX2.out HB2r.out)))
        have hkq : ∀ e : Ext W9, e.w.cell? ⟨wr.heap.size, qs, none⟩ = some (.int .i64 ((kt qs : Nat) : Int)) := by
          rcases (by omega : qs = 1 ∨ qs = 2 ∨ qs = 3 ∨ qs = 4 ∨ qs = 5) with h | h | h | h | h <;> (subst h; exact hkc _ _ rfl)
        have hq6 : (qs : Int) < 6 := by omega
        have hq0 : (0 : Int) ≤ (qs : Int) := by omega
        have hfst : (((pre.length : Int) == 0) = false ∧ pre ≠ []) ∨ (((pre.length : Int) == 0) = true ∧ xb = true) ∨ (((pre.length : Int) == 0) = true ∧ xb = false ∧ ((xr : Int) == 32) = false) ∨ (((pre.length : Int) == 0) = true ∧ xb = false ∧ ((xr : Int) == 32) = true) := by
          by_cases h0 : pre = []
          · subst h0
            cases xb
            · by_cases h32 : xr = 32
              · subst h32; exact .inr (.inr (.inr ⟨rfl, rfl, rfl⟩))
              · exact .inr (.inr (.inl ⟨rfl, rfl, by simp; omega⟩))
            · exact .inr (.inl ⟨rfl, rfl⟩)
          · refine .inl ⟨?_, h0⟩
            have := List.length_pos_iff.2 h0
            simp
            exact h0
        clear zy2 hck hbn hu bX hbW hW9 hu9 hb9 hbn9 bX9 hr9 hk9 z12 HBK8 HBKB8 HBN8 HBS8 HT8
        unfold itV
        by_cases hq1 : qs = 1
        case pos =>
          have d6 : ((qs : Int) != 1) = false := by simp; omega
          rcases hfst with ⟨n0, _⟩ | ⟨n0, rfl⟩ | ⟨n0, rfl, n1⟩ | ⟨n0, rfl, n1⟩
          all_goals
            gi_wp2
            have hwf := wide_fn
            refine region_ext (wideish_round _ l') (by kernel_rfl) (by kernel_rfl) (by kernel_rfl) ?_
            repeat (gi_big_quiet_step ((gi_at_call 20; exact ext_call (Table_Kind _ t d xa ⟨xn, xr, _⟩ (HTB9.out _) HRD.out))))
            refine wpQuietIn_nil ?_
            rintro W10 ⟨⟨_, hb10⟩, rfl⟩
            have c4 : W10.cell? ⟨w.heap.size + 1, 0, none⟩ = some (.bool false) := e4 ⟨W10, hb10⟩
            have f4 : W10.frozen? ⟨w.heap.size + 1, 0, none⟩ = false := ef4 ⟨W10, hb10⟩
            have HB10 := Lib.hid hb10
            clear hwf hb10 e4 ef4 e8 e12 e15 e16 hkc ey2 ex0 ex1 ex2 ex3 hkq
            gi_wp2
            exact ⟨(HK9.out.trans (keeps_below HB10.out)).from _, HR9.out.trans (Rnd.of_below HB10.out (by have := HU9.out.size; omega)), by rw [List.length_append]; exact Boxed.under HBN9.out HB10.out, HU9.out.then (Upd.of_below (F := fun _ => False) HB10.out) (fun _ _ h => h.elim)⟩
        case neg =>
          have d6 : ((qs : Int) != 1) = true := by simp; omega
          by_cases hk : kind d ⟨xn, xr, xb⟩ = kt qs
          case pos =>
            have d7 : (((kind d ⟨xn, xr, xb⟩ : Nat) : Int) != ((kt qs : Nat) : Int)) = false := by simp; omega
            rcases hfst with ⟨n0, _⟩ | ⟨n0, rfl⟩ | ⟨n0, rfl, n1⟩ | ⟨n0, rfl, n1⟩
            all_goals
              gi_wp2
              have hwf := wide_fn
              refine region_ext (wideish_round _ l') (by kernel_rfl) (by kernel_rfl) (by kernel_rfl) ?_
              repeat (gi_big_quiet_step ((gi_at_call 20; exact ext_call (Table_Kind _ t d xa ⟨xn, xr, _⟩ (HTB9.out _) HRD.out))))
              refine wpQuietIn_nil ?_
              rintro W10 ⟨⟨_, hb10⟩, rfl⟩
              have c4 : W10.cell? ⟨w.heap.size + 1, 0, none⟩ = some (.bool false) := e4 ⟨W10, hb10⟩
              have f4 : W10.frozen? ⟨w.heap.size + 1, 0, none⟩ = false := ef4 ⟨W10, hb10⟩
              have HB10 := Lib.hid hb10
              clear hwf hb10 e4 ef4 e8 e12 e15 e16 hkc ey2 ex0 ex1 ex2 ex3 hkq
              gi_wp2
              exact ⟨(HK9.out.trans (keeps_below HB10.out)).from _, HR9.out.trans (Rnd.of_below HB10.out (by have := HU9.out.size; omega)), by rw [List.length_append]; exact Boxed.under HBN9.out HB10.out, HU9.out.then (Upd.of_below (F := fun _ => False) HB10.out) (fun _ _ h => h.elim)⟩
          case neg =>
            have d7 : (((kind d ⟨xn, xr, xb⟩ : Nat) : Int) != ((kt qs : Nat) : Int)) = true := by simp; omega
            rcases hfst with ⟨n0, hne⟩ | ⟨n0, rfl⟩ | ⟨n0, rfl, n1⟩ | ⟨n0, rfl, n1⟩
            · have HNF := Lib.hid (show ¬ (pre = [] ∧ xb = false ∧ xr = 32) from (fun h => hne h.1))
              gi_wp2
              have hwf := wide_fn
              refine region_ext (wideish_round _ l') (by kernel_rfl) (by kernel_rfl) (by kernel_rfl) ?_
              repeat (gi_big_quiet_step ((gi_at_call 20; exact ext_call (Table_Kind _ t d xa ⟨xn, xr, _⟩ (HTB9.out _) HRD.out))))
              refine wpQuietIn_nil ?_
              rintro W10 ⟨⟨_, hb10⟩, rfl⟩
              have c4 : W10.cell? ⟨w.heap.size + 1, 0, none⟩ = some (.bool false) := e4 ⟨W10, hb10⟩
              have f4 : W10.frozen? ⟨w.heap.size + 1, 0, none⟩ = false := ef4 ⟨W10, hb10⟩
              have HB10 := Lib.hid hb10
              clear hwf hb10 e4 ef4 e8 e12 e15 e16 hkc ey2 ex0 ex1 ex2 ex3 hkq
              gi_wp2
              exact ⟨((HK9.out.trans (keeps_below HB10.out)).trans (KeepsOthers.setCell _ _ _)).from _, rfl, pre, _, rfl, hq1, HNF.out, hk⟩
            · have HNF := Lib.hid (show ¬ (pre = [] ∧ true = false ∧ xr = 32) from (fun h => by cases h.2.1))
              gi_wp2
              have hwf := wide_fn
              refine region_ext (wideish_round _ l') (by kernel_rfl) (by kernel_rfl) (by kernel_rfl) ?_
              repeat (gi_big_quiet_step ((gi_at_call 20; exact ext_call (Table_Kind _ t d xa ⟨xn, xr, _⟩ (HTB9.out _) HRD.out))))
              refine wpQuietIn_nil ?_
              rintro W10 ⟨⟨_, hb10⟩, rfl⟩
              have c4 : W10.cell? ⟨w.heap.size + 1, 0, none⟩ = some (.bool false) := e4 ⟨W10, hb10⟩
              have f4 : W10.frozen? ⟨w.heap.size + 1, 0, none⟩ = false := ef4 ⟨W10, hb10⟩
              have HB10 := Lib.hid hb10
              clear hwf hb10 e4 ef4 e8 e12 e15 e16 hkc ey2 ex0 ex1 ex2 ex3 hkq
              gi_wp2
              exact ⟨((HK9.out.trans (keeps_below HB10.out)).trans (KeepsOthers.setCell _ _ _)).from _, rfl, pre, _, rfl, hq1, HNF.out, hk⟩
            · have HNF := Lib.hid (show ¬ (pre = [] ∧ false = false ∧ xr = 32) from (fun h => by rw [h.2.2] at n1; cases n1))
              gi_wp2
              have hwf := wide_fn
              refine region_ext (wideish_round _ l') (by kernel_rfl) (by kernel_rfl) (by kernel_rfl) ?_
              repeat (gi_big_quiet_step ((gi_at_call 20; exact ext_call (Table_Kind _ t d xa ⟨xn, xr, _⟩ (HTB9.out _) HRD.out))))
              refine wpQuietIn_nil ?_
              rintro W10 ⟨⟨_, hb10⟩, rfl⟩
              have c4 : W10.cell? ⟨w.heap.size + 1, 0, none⟩ = some (.bool false) := e4 ⟨W10, hb10⟩
              have f4 : W10.frozen? ⟨w.heap.size + 1, 0, none⟩ = false := ef4 ⟨W10, hb10⟩
              have HB10 := Lib.hid hb10
              clear hwf hb10 e4 ef4 e8 e12 e15 e16 hkc ey2 ex0 ex1 ex2 ex3 hkq
              gi_wp2
              exact ⟨((HK9.out.trans (keeps_below HB10.out)).trans (KeepsOthers.setCell _ _ _)).from _, rfl, pre, _, rfl, hq1, (fun h => HNF.out ⟨h.1, trivial, h.2.2⟩), hk⟩
            · gi_wp2
              have hwf := wide_fn
              refine region_ext (wideish_round _ l') (by kernel_rfl) (by kernel_rfl) (by kernel_rfl) ?_
              repeat (gi_big_quiet_step ((gi_at_call 20; exact ext_call (Table_Kind _ t d xa ⟨xn, xr, _⟩ (HTB9.out _) HRD.out))))
              refine wpQuietIn_nil ?_
              rintro W10 ⟨⟨_, hb10⟩, rfl⟩
              have c4 : W10.cell? ⟨w.heap.size + 1, 0, none⟩ = some (.bool false) := e4 ⟨W10, hb10⟩
              have f4 : W10.frozen? ⟨w.heap.size + 1, 0, none⟩ = false := ef4 ⟨W10, hb10⟩
              have HB10 := Lib.hid hb10
              clear hwf hb10 e4 ef4 e8 e12 e15 e16 hkc ey2 ex0 ex1 ex2 ex3 hkq
              gi_wp2
              exact ⟨(HK9.out.trans (keeps_below HB10.out)).from _, HR9.out.trans (Rnd.of_below HB10.out (by have := HU9.out.size; omega)), by rw [List.length_append]; exact Boxed.under HBN9.out HB10.out, HU9.out.then (Upd.of_below (F := fun _ => False) HB10.out) (fun _ _ h => h.elim)⟩
end Go.Proofs.YtpfnmcgcpgcfjaaDoor
