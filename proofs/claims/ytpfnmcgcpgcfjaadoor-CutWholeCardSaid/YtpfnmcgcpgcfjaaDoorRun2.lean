/- Contract of cut.run. -/
import Derived.Test.YtpfnmcgcpgcfjaaDoorRun
import Derived.RangeFuncBox
import Derived.WalkMore
import Derived.Deep.DeepBigQuietO
namespace Tess
open Go Go.RowKit Go.Shelf
theorem box_kept {W W' : World} {row : Option Nat} {B B0 : Nat} {t : TypeId} {v : Value} (h : Boxed W B t v) (hg : W.grownBy W' row) (hr : ∀ r, row = some r → B0 ≤ r ∧ ∃ o : Obj, W.heap[r]? = some o ∧ o.isCells = false) : Boxed W' B t v :=
  boxed_own B t (fun (_ : Unit) => v) () W W' row h hg (fun r e => (hr r e).2)
theorem blk_kept {W W' : World} {row : Option Nat} {B B0 : Nat} {cs : Array Value} {t : TypeId} {f : Nat × Nat} (h : W.heap[B]? = some (.cells cs t f)) (hg : W.grownBy W' row) (hr : ∀ r, row = some r → B0 ≤ r ∧ ∃ o : Obj, W.heap[r]? = some o ∧ o.isCells = false) : W'.heap[B]? = some (.cells cs t f) :=
  (hg.block B (Array.getElem?_eq_some_iff.1 h).1 (fun e => by
    obtain ⟨_, o, ho, hc⟩ := hr B e.symm
    rw [h] at ho
    cases ho
    cases hc)).trans h
theorem Boxed.under {W W' : World} {B : Nat} {t : TypeId} {v : Value} (h : Boxed W B t v) (hb : Below W.heap.size W W') : Boxed W' B t v := blk_below h hb
/-- All of one kind: the first one's. -/
def OneK (d : Dat) (q : List It) : Prop := ∀ y ∈ q, kind d y = headK d q
/-- What run's own cells hold. -/
structure RunW (w W : World) (g n last k : Nat) : Prop where
  m : Boxed W w.heap.size 27 (.pointer (some ⟨g, 0, none⟩))
  n : Boxed W (w.heap.size + 1) 3 (.int .i64 n)
  l : Boxed W (w.heap.size + 1 + 1) 3 (.int .i64 last)
  k : Boxed W (w.heap.size + 1 + 1 + 1) 3 (.int .i64 k)
  sz : w.heap.size + 5 ≤ W.heap.size
theorem RunW.kept {w W W' : World} {g n last k : Nat} {row : Option Nat} {B0 : Nat} (h : RunW w W g n last k) (hg : W.grownBy W' row) (hr : ∀ r, row = some r → B0 ≤ r ∧ ∃ o : Obj, W.heap[r]? = some o ∧ o.isCells = false) : RunW w W' g n last k :=
  ⟨box_kept h.m hg hr, box_kept h.n hg hr, box_kept h.l hg hr, box_kept h.k hg hr, Nat.le_trans h.sz hg.size⟩
theorem RunW.under {w W W' : World} {g n last k : Nat} (h : RunW w W g n last k) (hb : Below W.heap.size W W') : RunW w W' g n last k :=
  ⟨Boxed.under h.m hb, Boxed.under h.n hb, Boxed.under h.l hb, Boxed.under h.k hb, Nat.le_trans h.sz hb.size⟩
theorem RunW.setN {w W : World} {g n last k : Nat} (h : RunW w W g n last k) (n' : Nat) : RunW w (W.setCell ⟨w.heap.size + 1, 0, none⟩ (.int .i64 n')) g n' last k :=
  ⟨h.m.other (by omega) _, h.n.set _, h.l.other (by omega) _, h.k.other (by omega) _, by simpa [World.setCell] using h.sz⟩
theorem RunW.setL {w W : World} {g n last k : Nat} (h : RunW w W g n last k) (l' : Nat) : RunW w (W.setCell ⟨w.heap.size + 1 + 1, 0, none⟩ (.int .i64 l')) g n l' k :=
  ⟨h.m.other (by omega) _, h.n.other (by omega) _, h.l.set _, h.k.other (by omega) _, by simpa [World.setCell] using h.sz⟩
theorem RunW.setK {w W : World} {g n last k : Nat} (h : RunW w W g n last k) (k' : Nat) : RunW w (W.setCell ⟨w.heap.size + 1 + 1 + 1, 0, none⟩ (.int .i64 k')) g n last k' :=
  ⟨h.m.other (by omega) _, h.n.other (by omega) _, h.l.other (by omega) _, h.k.set _, by simpa [World.setCell] using h.sz⟩
/-- What the round's variable holds. -/
def XBox (W : World) (Bx : Nat) (a : Nat) (x : It) : Prop := W.heap[Bx]? = some (.cells #[.int .i64 (a : Nat), .int .i64 (x.n : Nat), .int .i32 (x.r : Nat), .bool x.bad] 43 (0, 0))
theorem OneK.snoc {d : Dat} {q : List It} {x : It} (h : OneK d q) (hx : q ≠ [] → kind d x = headK d q) : OneK d (q ++ [x]) := by
  intro y hy
  by_cases e : q = []
  · subst e
    simp only [List.nil_append, List.mem_singleton] at hy
    subst hy
    rfl
  · rw [headK_snoc e]
    rcases List.mem_append.1 hy with hy | hy
    · exact h y hy
    · simp only [List.mem_singleton] at hy
      subst hy
      exact hx e
theorem model_cell5 {w : World} {g : Nat} {d : Dat} (h : Go.Proofs.YtpfnmcgcpgcfjaaDoor.IsModel w g d) : ∃ t, w.cell? ⟨g, 5, none⟩ = some (.pointer (some ⟨t, 0, none⟩)) ∧ IsTable w t d ∧ RightD d := by
  obtain ⟨h0, vw, vm, va, vb, vc, t, r, h1, h2, h3, h4, h5⟩ := h
  exact ⟨t, (blk_cell h1 5).trans rfl, h4, h5⟩
end Tess
namespace Go.Proofs.YtpfnmcgcpgcfjaaDoor
open Go.RowKit Tess Go.Shelf
attribute [local go_sem] Oper.semAt_some
set_option maxHeartbeats 16000000 in
set_option maxRecDepth 100000 in
theorem cut_run (w : World) (g : Nat) (d : Dat) (s : ByteArray) (hs : s.size ≤ 140737488355328) (hM : IsModel w g d) (hT : Tabs w) :
    Calls Tryd.prog 117 #[.pointer (some ⟨g, 0, none⟩), .string s] w fun e w' => e = .returned (.tuple #[.int .i64 ((run d s.data.toList).1 : Nat), .int .i64 ((run d s.data.toList).2.1 : Nat), .int .i64 ((run d s.data.toList).2.2 : Nat)]) ∧ Below w.heap.size w w' := by
  refine (callsIn_wide (n := 5)).1 ?_
  refine callsIn_of_wp_marks Tryd.func117 rfl trivial ?_ rfl
  simp only [Tryd.ntmps117, List.size_toArray, List.length_cons, List.length_nil, Nat.reduceAdd, Nat.reduceSub, Array.replicate_succ, Array.replicate_zero, List.push_toArray, List.append_toArray, List.nil_append, List.cons_append]
  have HM := Lib.hid hM
  have HT := Lib.hid hT
  clear hM hT
  gi_wp2
  refine wpIn_wide.2 (wp_scope_straight ((wpIn_wide (n := 5)).1 ?_))
  apply wpIn_seq
  apply wpIn_label
  dsimp only [Exit.then]
  gi_wp2_with (refine ⟨trivial, (callsIn_wide.2 (utf_Items _ _)).mono ?_⟩; rintro e w' ⟨rfl, rfl⟩)
  obtain ⟨W0, hW0⟩ : ∃ W0, (((((w.alloc (Obj.cells #[.pointer (some ⟨g, 0, none⟩)] 27)).alloc (Obj.cells #[.int .i64 0] 3)).alloc (Obj.cells #[.int .i64 0] 3)).alloc (Obj.cells #[.int .i64 0] 3)).alloc (Obj.cells #[.string s] 9)) = W0 := ⟨_, rfl⟩
  have hB0 : Below w.heap.size w W0 := by rw [← hW0]; (repeat (first | with_reducible exact Below.refl _ _ | assumption | refine Below.drew ?_ | refine below_drewN ?_ _ | refine Below.alloc ?_ (by first | omega | (simp; done) | (simp; omega)) _ | refine Below.setCell ?_ (by first | omega | (simp; done) | (simp; omega)) _))
  have hsz : W0.heap.size = w.heap.size + 5 := by rw [← hW0]; simp
  have bm := ((((Boxed.new w 27 (.pointer (some ⟨g, 0, none⟩))).alloc (.cells #[.int .i64 0] 3)).alloc (.cells #[.int .i64 0] 3)).alloc (.cells #[.int .i64 0] 3)).alloc (.cells #[.string s] 9)
  have bn := (((Boxed.new (w.alloc (.cells #[.pointer (some ⟨g, 0, none⟩)] 27)) 3 (.int .i64 0)).alloc (.cells #[.int .i64 0] 3)).alloc (.cells #[.int .i64 0] 3)).alloc (.cells #[.string s] 9)
  have bl := ((Boxed.new ((w.alloc (.cells #[.pointer (some ⟨g, 0, none⟩)] 27)).alloc (.cells #[.int .i64 0] 3)) 3 (.int .i64 0)).alloc (.cells #[.int .i64 0] 3)).alloc (.cells #[.string s] 9)
  have bk := (Boxed.new (((w.alloc (.cells #[.pointer (some ⟨g, 0, none⟩)] 27)).alloc (.cells #[.int .i64 0] 3)).alloc (.cells #[.int .i64 0] 3)) 3 (.int .i64 0)).alloc (.cells #[.string s] 9)
  have bs := Boxed.new ((((w.alloc (.cells #[.pointer (some ⟨g, 0, none⟩)] 27)).alloc (.cells #[.int .i64 0] 3)).alloc (.cells #[.int .i64 0] 3)).alloc (.cells #[.int .i64 0] 3)) 9 (.string s)
  simp only [World.size_alloc] at bn bl bk bs
  rw [hW0] at bm bn bl bk bs ⊢
  clear hW0
  have h2 := HT.out.two
  have hlen : s.data.toList.length = s.size := by rw [Array.length_toList]; rfl
  refine wpIn_rangeFunc_ownH rfl (by omega) (gf := 60) (lb := #[.pointer (some ⟨w.heap.size + 1 + 1 + 1 + 1, 0, none⟩)]) rfl trivial (enters_of Tryd.func60 (by kernel_rfl) rfl)
    (Items_stops (5 - 1) (by omega) (w.heap.size + 1 + 1 + 1 + 1) w.heap.size (w.heap.size + 1 + 1 + 1 + 1) 0 (by decide) (by decide) s hs (Nat.le_refl _) h2 W0 bs (Tabs.keep HT.out hB0 h2) (by omega) (by omega)) rnd_t (rnd_b (by omega)) (Below.refl _ _) (fun _ => rfl)
    (fun pre W => (OneK d (its pre) ∧ RunW w W g (sizes (its pre)) (lastN (its pre)) (headK d (its pre))) ∧ Below w.heap.size w W)
    (fun c pre W => (c = .exit 0 ∧ ∃ q x, its pre = q ++ [x] ∧ q ≠ [] ∧ OneK d q ∧ kind d x ≠ headK d q ∧ RunW w W g (sizes q) (lastN q) (headK d q)) ∧ Below w.heap.size w W)
    (OwnFrom.and (fun pre A B row hs hg hr => ⟨hs.1, hs.2.kept hg hr⟩) (ownFrom_below (Nat.le_refl _) (by omega)))
    (fun c => OwnFrom.and (fun pre A B row hs hg hr => by
      obtain ⟨h1, q, x, h2, h3, h4, h5, h6⟩ := hs
      exact ⟨h1, q, x, h2, h3, h4, h5, h6.kept hg hr⟩) (ownFrom_below (Nat.le_refl _) (by omega)))
    ⟨⟨fun y hy => by simp [its] at hy, ⟨bm, bn, bl, bk, by omega⟩⟩, hB0⟩
    (fun x a' W => ∃ Bx, w.heap.size + 1 + 1 + 1 + 1 < Bx ∧ XBox W Bx x.1.1 x.1.2 ∧ a' = { tmps := #[.pointer (some ⟨g, 0, none⟩), .string s, .pointer (some ⟨w.heap.size, 0, none⟩), undef, .pointer (some ⟨w.heap.size + 1, 0, none⟩), .pointer (some ⟨w.heap.size + 1 + 1, 0, none⟩), .pointer (some ⟨w.heap.size + 1 + 1 + 1, 0, none⟩), .pointer (some ⟨Bx, 0, none⟩), undef, .string s,
          .func (.func 60) #[] #[.pointer (some ⟨w.heap.size + 1 + 1 + 1 + 1, 0, none⟩)], itV x.1.1 x.1.2, undef, undef, undef, undef, undef, undef, undef, undef, undef, undef, undef, undef, undef, undef, undef, undef, undef, undef, undef, undef, undef], defers := [] })
    (fun x a' _ X Y row hs hg hr => by
      obtain ⟨Bx, h1, h2, h3⟩ := hs
      exact ⟨Bx, h1, blk_kept h2 hg hr, h3⟩)
    ?assign ?body ?done ?stop
  case assign =>
    rintro l pre x W K ⟨⟨h1, h2⟩, h3⟩ hK
    unfold itV
    gi_wp2
    exact hK _ _ ((KeepsOthers.alloc _ _).from _) ((Rnd.refl _ _ _ _).alloc h3.size _) ⟨⟨h1, h2.under ((Below.refl _ _).alloc (Nat.le_refl _) _)⟩, h3.alloc h3.size _⟩ ⟨W.heap.size, by have := h2.sz; omega, blk_new _ _, rfl⟩
  case body =>
    rintro l pre x a' W hl ⟨r, hr⟩ ⟨⟨hone, hR⟩, hB⟩ ⟨Bx, hBx, bX, rfl⟩ hlt
    have hpl : pre.length < s.size := by have := items_len s.data.toList; omega
    have h4 := sizes_le4 pre
    have hxm := itemsAt_mem 0 x.2
    obtain ⟨⟨a, x⟩, hmem⟩ := x
    simp only at bX hxm
    obtain ⟨t, ht5, htab, hrd⟩ := model_cell5 (HM.out.below hB)
    have HTB := Lib.hid htab
    have HRD := Lib.hid hrd
    have HONE := Lib.hid hone
    have HRR := Lib.hid hR
    have HBX := Lib.hid bX
    have HBB := Lib.hid hB
    have hxn := hxm.2.2.2.1
    have hW5 := hR.sz
    clear htab hrd hone hxm
    have c0 := hR.m.cell
    have x0 := (blk_cell bX 0).trans (rfl : _ = some (Value.int .i64 (a : Nat)))
    have x1 := (blk_cell bX 1).trans (rfl : _ = some (Value.int .i64 (x.n : Nat)))
    have x2 := (blk_cell bX 2).trans (rfl : _ = some (Value.int .i32 (x.r : Nat)))
    have x3 := (blk_cell bX 3).trans (rfl : _ = some (Value.bool x.bad))
    clear hR bX hB
    have hmx : Tryd.prog.follows .mixedOrders = true := by kernel_rfl
    gi_wp2_with fail
    gi_region_with_o (first
      | (refine ⟨trivial, ?_⟩; gi_at_call 19; refine (CallsIn.inRound l (callsIn_wide.2 (model_Table _ g t (by exact ht5)))).mono ?_; rintro e w' ⟨rfl, rfl⟩)
      | (refine ⟨trivial, ?_⟩; gi_at_call 20; refine (CallsIn.inRound l (callsIn_wide.2 (Table_Kind _ t d a x (by exact HTB.out) HRD.out))).mono ?_; rintro e W1 ⟨rfl, hb1⟩))
    all_goals
      have hb2 : Below W.heap.size W W1 := (Below.drew (Below.refl _ W)).trans hb1
      have hR := HRR.out.under hb2
      have hX := blk_below HBX.out hb2
      have hB1 := HBB.out.trans (hb2.mono HBB.out.size)
      have hK1 := Rnd.of_below (n₀ := w.heap.size) (B := w.heap.size + 1 + 1 + 1 + 1) (T := 0) hb2 HBB.out.size
      have hF1 := (keeps_below hb2).from W0.heap.size
      have HR1 := Lib.hid hR
      have HB1 := Lib.hid hB1
      have HK1 := Lib.hid hK1
      have HF1 := Lib.hid hF1
      clear hb1 hb2 hB1 hK1 hF1 c0 x0 x1 x2 x3 HRR HBX HBB ht5
      have c0 := hR.n.cell
      have c1 := hR.l.cell
      have c2 := hR.k.cell
      have f0 := hR.n.frozen
      have f1 := hR.l.frozen
      have f2 := hR.k.frozen
      have x1 := (blk_cell hX 1).trans (rfl : _ = some (Value.int .i64 (x.n : Nat)))
      clear hR hX
      by_cases hq : its pre = []
      · rw [hq] at c0 c1 c2
        clear c0
        have c0 : W1.cell? ⟨w.heap.size + 1, 0, none⟩ = some (.int .i64 0) := by
          have := HR1.out.n.cell
          rw [hq] at this
          exact this
        have hw : wrap64 ((0 : Int) + x.n) = ((x.n : Nat) : Int) := by
          unfold wrap64
          omega
        have HW := Lib.hid hw
        have HQ := Lib.hid hq
        clear hw hq
        gi_wp2
        refine ⟨HF1.out.trans ((((KeepsOthers.setCell _ _ _).trans (KeepsOthers.setCell _ _ _)).trans (KeepsOthers.setCell _ _ _)).from _), ((HK1.out.setCell ?_ ?_ _).setCell ?_ ?_ _).setCell ?_ ?_ _, ⟨?one, ?run⟩, ((HB1.out.setCell ?_ _).setCell ?_ _).setCell ?_ _⟩
        case one =>
          rw [its_snoc, HQ.out]
          exact OneK.snoc (fun y hy => by simp at hy) (fun h => absurd rfl h)
        case run =>
          rw [its_snoc, HQ.out]
          have := ((HR1.out.setK (kind d x)).setN x.n).setL x.n
          exact this
        all_goals (dsimp only; omega)
      · obtain ⟨N, hN⟩ : ∃ N, sizes (its pre) = N := ⟨_, rfl⟩
        rw [hN] at c0 h4
        have hN1 : 1 ≤ N := by
          rw [← hN]
          cases hp : pre with
          | nil => rw [hp] at hq; exact absurd rfl hq
          | cons y l =>
            have := (itemsAt_mem 0 y.2).2.2.1
            show 1 ≤ sizes (y.1.2 :: its l)
            rw [sizes_cons]
            omega
        have hw : wrap64 ((N : Int) + x.n) = ((N + x.n : Nat) : Int) := by
          unfold wrap64
          omega
        have HW := Lib.hid hw
        have HN := Lib.hid hN
        have HQ := Lib.hid hq
        have hn0 : ((N : Int) == 0) = false := by simp; omega
        clear hw hN hq
        by_cases hk : kind d x = headK d (its pre)
        · have hk' : ((kind d x : Int) != (headK d (its pre) : Int)) = false := by simp [hk]
          have HK := Lib.hid hk
          clear hk
          gi_wp2
          refine ⟨HF1.out.trans (((KeepsOthers.setCell _ _ _).trans (KeepsOthers.setCell _ _ _)).from _), (HK1.out.setCell ?_ ?_ _).setCell ?_ ?_ _, ⟨?one, ?run⟩, (HB1.out.setCell ?_ _).setCell ?_ _⟩
          case one =>
            rw [its_snoc]
            exact OneK.snoc HONE.out fun _ => HK.out
          case run =>
            rw [its_snoc, sizes_append, lastN_snoc, headK_snoc HQ.out, HN.out]
            have := ((HR1.out.setN (N + x.n)).setL x.n)
            rw [Int.natCast_add] at this
            exact this
          all_goals (dsimp only; omega)
        · have hk' : ((kind d x : Int) != (headK d (its pre) : Int)) = true := by simp; omega
          have HK := Lib.hid hk
          clear hk
          gi_wp2
          exact ⟨HF1.out, ⟨rfl, its pre, x, its_snoc _ _, HQ.out, HONE.out, HK.out, HR1.out⟩, HB1.out⟩
  case done =>
    rintro D xs W hD hxs ⟨⟨hone, hR⟩, hB⟩ hK
    have hall := its_all hxs
    have hrun : run d s.data.toList = (sizes (its xs), lastN (its xs), headK d (its xs)) := by
      unfold run
      rw [run_whole (by rw [← hall]; exact hone), ← hall]
    have HRUN := Lib.hid hrun
    have HK := Lib.hid hK
    have HB := Lib.hid hB
    clear hxs hall hrun hone hK hB
    obtain ⟨n', hn'⟩ : ∃ n, sizes (its xs) = n := ⟨_, rfl⟩
    obtain ⟨l', hl'⟩ : ∃ n, lastN (its xs) = n := ⟨_, rfl⟩
    obtain ⟨k', hk'⟩ : ∃ n, headK d (its xs) = n := ⟨_, rfl⟩
    rw [hn', hl', hk'] at hR HRUN
    clear hn' hl' hk'
    have c0 := hR.n.cell
    have c1 := hR.l.cell
    have c2 := hR.k.cell
    have f0 := hR.n.frozen
    have f1 := hR.l.frozen
    have f2 := hR.k.frozen
    have hmx : Tryd.prog.follows .mixedOrders = true := by kernel_rfl
    gi_wp2
    gi_region_with_o (fail)
    all_goals gi_wp2
    all_goals
      simp only [setCell_id c0, setCell_id c1, setCell_id c2]
      change bodyPostM Fence.wide 5 Tryd.prog Tryd.f117 _ Exit.ret _ _
      have hK' : W.drew.heap[D]? = some (.deferred (some [])) := HK.out
      have e0 := cell_kept (W := W.drew) c0 (grownBy_putObj' _ D (.deferred none)) (fun r e => by cases e; exact ⟨_, hK', rfl⟩)
      have e1 := cell_kept (W := W.drew) c1 (grownBy_putObj' _ D (.deferred none)) (fun r e => by cases e; exact ⟨_, hK', rfl⟩)
      have e2 := cell_kept (W := W.drew) c2 (grownBy_putObj' _ D (.deferred none)) (fun r e => by cases e; exact ⟨_, hK', rfl⟩)
      refine ⟨by simp, .inl ⟨_, _, rfl, run_takeDeferred hK', ?_⟩⟩
      refine ⟨.tuple #[.int .i64 (n' : Nat), .int .i64 (l' : Nat), .int .i64 (k' : Nat)], by simp [results, Tryd.f117, go_sem, e0, e1, e2], by rw [HRUN.out], HB.out.drew.trans (belowK_b (w := w) (Nat.le_refl _) _ D _ _ (by omega) hK' rfl rfl)⟩
  case stop =>
    rintro D c pre W hD hpre ⟨⟨rfl, q, x, hq, hne, hone, hkx, hR⟩, hB⟩ hK
    have hrun : run d s.data.toList = (sizes q, lastN q, headK d q) := by
      obtain ⟨t, ht⟩ := its_pre hpre
      rw [hq] at ht
      have := run_stopped ht hne hone hkx
      unfold run
      rw [this.1, this.2]
    have HRUN := Lib.hid hrun
    have HK := Lib.hid hK
    have HB := Lib.hid hB
    clear hpre hq hrun hone hne hkx hK hB
    obtain ⟨n', hn'⟩ : ∃ n, sizes q = n := ⟨_, rfl⟩
    obtain ⟨l', hl'⟩ : ∃ n, lastN q = n := ⟨_, rfl⟩
    obtain ⟨k', hk'⟩ : ∃ n, headK d q = n := ⟨_, rfl⟩
    rw [hn', hl', hk'] at hR HRUN
    clear hn' hl' hk'
    have c0 := hR.n.cell
    have c1 := hR.l.cell
    have c2 := hR.k.cell
    have f0 := hR.n.frozen
    have f1 := hR.l.frozen
    have f2 := hR.k.frozen
    have hmx : Tryd.prog.follows .mixedOrders = true := by kernel_rfl
    gi_wp2
    gi_region_with_o (fail)
    all_goals gi_wp2
    all_goals
      simp only [setCell_id c0, setCell_id c1, setCell_id c2]
      change bodyPostM Fence.wide 5 Tryd.prog Tryd.f117 _ Exit.ret _ _
      have hK' : W.drew.heap[D]? = some (.deferred (some [])) := HK.out
      have e0 := cell_kept (W := W.drew) c0 (grownBy_putObj' _ D (.deferred none)) (fun r e => by cases e; exact ⟨_, hK', rfl⟩)
      have e1 := cell_kept (W := W.drew) c1 (grownBy_putObj' _ D (.deferred none)) (fun r e => by cases e; exact ⟨_, hK', rfl⟩)
      have e2 := cell_kept (W := W.drew) c2 (grownBy_putObj' _ D (.deferred none)) (fun r e => by cases e; exact ⟨_, hK', rfl⟩)
      refine ⟨by simp, .inl ⟨_, _, rfl, run_takeDeferred hK', ?_⟩⟩
      refine ⟨.tuple #[.int .i64 (n' : Nat), .int .i64 (l' : Nat), .int .i64 (k' : Nat)], by simp [results, Tryd.f117, go_sem, e0, e1, e2], by rw [HRUN.out], HB.out.drew.trans (belowK_b (w := w) (Nat.le_refl _) _ D _ _ (by omega) hK' rfl rfl)⟩
end Go.Proofs.YtpfnmcgcpgcfjaaDoor
