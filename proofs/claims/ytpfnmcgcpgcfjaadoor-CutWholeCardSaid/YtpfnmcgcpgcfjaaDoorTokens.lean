/- Contract of cut.Tokens. -/
import Derived.Test.YtpfnmcgcpgcfjaaDoorAll
import Derived.Maps.OwnIn
import Derived.Maps.AppendAt
namespace Tess
open Go Go.RowKit Go.Shelf
theorem rnd_append {n₀ B Bx e size k : Nat} {W w1 : World} {v v' : Value} {xs : List Value} {tmp : Obj} (hrow : W.ownsRow n₀ e size v k xs) (hgrow : (W.alloc tmp).grownBy w1 v.ownBlock)
    (hb2 : Below n₀ W (w1.setCell ⟨Bx, 0, none⟩ v')) (hBx : Bx < B) : Rnd n₀ B e W (w1.setCell ⟨Bx, 0, none⟩ v') := by
  refine ⟨hb2, fun k cs t fr hk hc ht => ?_⟩
  have hlt := (Array.getElem?_eq_some_iff.1 hc).1
  refine (Below.heap_setCell w1 _ _ k (by show k ≠ Bx; omega)).trans ((hgrow.block k (by simp; omega) ?_).trans ((Below.heap_alloc W tmp k hlt).trans hc))
  rcases hrow.2 with ⟨rfl, _⟩ | ⟨g, cap, cur, rfl, _, hg, _⟩
  · simp [Value.ownBlock]
  · intro e'
    obtain rfl : k = g := by simpa [Value.ownBlock] using e'
    rw [hc] at hg
    cases hg
    exact ht rfl
def tokCells (t : Tok) : List Value := [.int .i64 (t.a : Nat), .int .i64 (t.b : Nat), .int .i64 (t.s : Nat)]
theorem cells3_new (w : World) (a b c : Value) (t : TypeId) : ∀ j u, [a, b, c][j]? = some u → (w.alloc (.cells #[a, b, c] t)).cell? ((⟨w.heap.size, 0, none⟩ : Addr).add j) = some u := by
  intro j u hj
  have hb := blk_new w (.cells #[a, b, c] t)
  have e : ((⟨w.heap.size, 0, none⟩ : Addr).add j) = ⟨w.heap.size, j, none⟩ := by simp [Addr.add]; intro h; exact h.symm
  rw [e, blk_cell hb j]
  rw [← hj]
  simp
end Tess
namespace Go.Proofs.YtpfnmcgcpgcfjaaDoor
open Go.RowKit Tess Go.Shelf
attribute [local go_sem] Oper.semAt_some
theorem tok_info : (Tryd.prog.info? 47).map (fun i => (i.zero, i.size, i.bytes)) = some (some (.agg #[.int .i64 0, .int .i64 0, .int .i64 0]), 3, 24) := by kernel_rfl
set_option maxHeartbeats 16000000 in
set_option maxRecDepth 100000 in
theorem cut_Tokens (w : World) (g : Nat) (d : Dat) (s : ByteArray) (hs : s.size ≤ 1048576) (hM : IsModel w g d) (hT : Tabs w) :
    Calls Tryd.prog 17 #[.pointer (some ⟨g, 0, none⟩), .string s] w fun e w' => ∃ v, e = .returned (.tuple #[v, .int .i64 0]) ∧ w'.ownsRow w.heap.size 47 3 v (tokens d s.data.toList).length ((tokens d s.data.toList).flatMap tokCells) ∧ Below w.heap.size w w' := by
  refine (callsIn_wide (n := 5)).1 ?_
  refine callsIn_of_wp_marks Tryd.func17 rfl trivial ?_ rfl
  simp only [Tryd.ntmps17, List.size_toArray, List.length_cons, List.length_nil, Nat.reduceAdd, Nat.reduceSub, Array.replicate_succ, Array.replicate_zero, List.push_toArray, List.append_toArray, List.nil_append, List.cons_append]
  have HM := Lib.hid hM
  have HT := Lib.hid hT
  clear hM hT
  gi_wp2_with (refine ⟨trivial, (callsIn_wide.2 (cut_All _ _ _ ⟨_, rfl⟩)).mono ?_⟩; rintro e w' ⟨rfl, rfl⟩)
  obtain ⟨i0, hi, hz0, hz1, hz2⟩ := info_parts tok_info
  obtain ⟨W0, hW0⟩ : ∃ W0, ((w.alloc (Obj.cells #[.slice none 0 0] 32)).alloc (Obj.cells #[.pointer (some ⟨g, 0, none⟩)] 27)).alloc (Obj.cells #[.string s] 9) = W0 := ⟨_, rfl⟩
  have hB0 : Below w.heap.size w W0 := by rw [← hW0]; (repeat (first | with_reducible exact Below.refl _ _ | assumption | refine Below.drew ?_ | refine below_drewN ?_ _ | refine Below.alloc ?_ (by first | omega | (simp; done) | (simp; omega)) _ | refine Below.setCell ?_ (by first | omega | (simp; done) | (simp; omega)) _))
  have hsz : W0.heap.size = w.heap.size + 3 := by rw [← hW0]; simp
  have bl := ((Boxed.new w 32 (.slice none 0 0)).alloc (.cells #[.pointer (some ⟨g, 0, none⟩)] 27)).alloc (.cells #[.string s] 9)
  have bm := (Boxed.new (w.alloc (.cells #[.slice none 0 0] 32)) 27 (.pointer (some ⟨g, 0, none⟩))).alloc (.cells #[.string s] 9)
  have bs := Boxed.new ((w.alloc (.cells #[.slice none 0 0] 32)).alloc (.cells #[.pointer (some ⟨g, 0, none⟩)] 27)) 9 (.string s)
  simp only [World.size_alloc] at bm bs
  rw [hW0] at bl bm bs ⊢
  clear hW0
  have h2 := HT.out.two
  refine wpIn_rangeFunc_ownH rfl (by omega) (gf := 89) (lb := #[.pointer (some ⟨w.heap.size + 1, 0, none⟩), .pointer (some ⟨w.heap.size + 1 + 1, 0, none⟩)]) rfl trivial (enters_of Tryd.func89 (by kernel_rfl) rfl)
    (All_stops (5 - 1) (by omega) (w.heap.size + 1) (w.heap.size + 1 + 1) w.heap.size (w.heap.size + 1) 47 g (by decide) (by decide) d s hs (Nat.le_refl _) (by omega) w W0 HM.out HT.out (Nat.le_refl _) hB0 bm bs (by omega) (by omega)) rnd_t (rnd_b (by omega)) (Below.refl _ _) (fun _ => rfl)
    (fun pre W => ((∃ v, Boxed W w.heap.size 32 v ∧ W.ownsRow w.heap.size 47 3 v pre.length (pre.flatMap tokCells) ∧ True) ∧ w.heap.size + 3 ≤ W.heap.size) ∧ Below w.heap.size w W)
    (fun _ _ _ => False)
    (OwnFrom.and (OwnFrom.and (Own.from (holdsRow_own w.heap.size w.heap.size 32 47 3 (fun pre : List Tok => pre.length) (fun pre => pre.flatMap tokCells) (fun _ _ => True)) _) (fun pre A B row hs hg hr => Nat.le_trans hs hg.size)) (ownFrom_below (Nat.le_refl _) (by omega)))
    (fun _ _ _ _ _ hs _ _ => hs)
    ⟨⟨⟨_, bl, World.ownsRow_nil _ _ _ _, trivial⟩, by omega⟩, hB0⟩
    (fun x a' W => ∃ Bx, w.heap.size + 1 + 1 < Bx ∧ W.heap[Bx]? = some (.cells #[.int .i64 (x.a : Nat), .int .i64 (x.b : Nat), .int .i64 (x.s : Nat)] 47 (0, 0)) ∧ a' = { tmps := #[.pointer (some ⟨g, 0, none⟩), .string s, undef, undef, .slice none 0 0, .int .i64 0, .pointer (some ⟨w.heap.size, 0, none⟩), .pointer (some ⟨Bx, 0, none⟩), .bool false, .pointer (some ⟨g, 0, none⟩), .bool false, .bool (decide (1048576 < (s.size : Int))), .string s, .int .i64 s.size, .bool (decide (1048576 < (s.size : Int))), .pointer (some ⟨g, 0, none⟩), .string s, .func (.func 89) #[] #[.pointer (some ⟨w.heap.size + 1, 0, none⟩), .pointer (some ⟨w.heap.size + 1 + 1, 0, none⟩)], tokV x, undef, undef, undef, undef, undef], defers := [] })
    (fun x a' _ X Y row hs hg hr => by
      obtain ⟨Bx, h1, h2, h3⟩ := hs
      exact ⟨Bx, h1, blk_kept h2 hg hr, h3⟩)
    ?assign ?body ?done ?stop
  case assign =>
    rintro l pre x W K ⟨⟨⟨v, h1, h2, _⟩, h3⟩, h4⟩ hK
    unfold tokV
    gi_wp2
    exact hK _ _ ((KeepsOthers.alloc _ _).from _) ((Rnd.refl _ _ _ _).alloc h4.size _) ⟨⟨⟨v, h1.alloc _, h2.alloc _, trivial⟩, by simp; omega⟩, h4.alloc h4.size _⟩ ⟨W.heap.size, by omega, blk_new _ _, rfl⟩
  case body =>
    rintro l pre x a' W hl ⟨r, hr⟩ ⟨⟨⟨v, hv, hrow, _⟩, h3⟩, hB⟩ ⟨Bx, hBx, bX, rfl⟩ hlt
    have c0 := hv.cell
    have x0 := (blk_cell bX 0).trans (rfl : _ = some (Value.int .i64 (x.a : Nat)))
    have x1 := (blk_cell bX 1).trans (rfl : _ = some (Value.int .i64 (x.b : Nat)))
    have x2 := (blk_cell bX 2).trans (rfl : _ = some (Value.int .i64 (x.s : Nat)))
    have hm : pre.length + 1 ≤ maxLen := by unfold maxLen; omega
    gi_wp2_with (gi_at_builtin; refine wpListIn_append_own _ rfl _ _ 32 rfl w.heap.size 47 i0 (.agg #[.int .i64 0, .int .i64 0, .int .i64 0]) 3 24 Tryd.underlying32 hi hz0 hz1 hz2 rfl (by decide) _ _ _ rfl (hrow.alloc _) ⟨W.heap.size, 0, none⟩ 1 1 (tokCells x) rfl rfl (cells3_new _ _ _ _ _) (by simp [tokCells, Value.oneCell']) (by omega) (by omega) (by have := hB.size; simp; omega) ?_; intro v' w1 hown' hgrow _; obtain ⟨g', cap', rfl⟩ := ownsRow_succ hown'; obtain ⟨hv1, hv2, hr2, hk2, hb2⟩ := hv.appended (by decide) hrow hB.size (Nat.le_refl _) hown' hgrow; have hc1 := hv1.cell; have hf1 := hv1.frozen)
    refine ⟨hk2.from _, rnd_append hrow hgrow hb2 (by omega), ⟨⟨_, hv2, ?_, trivial⟩, Nat.le_trans h3 hk2.size⟩, hB.trans hb2⟩
    rw [List.length_append, List.flatMap_append]
    simpa using hr2
  case done =>
    rintro D xs W hD rfl ⟨⟨⟨v, hv, hrow, _⟩, h3⟩, hB⟩ hK
    have c0 := hv.cell
    gi_wp2
    refine ⟨by simp, .inl ⟨_, _, rfl, run_takeDeferred hK, ?_⟩⟩
    exact ⟨_, results_tmp2 rfl _ _ _, v, rfl, ownsRow_putObj hrow _ hK rfl, hB.trans (belowK_b (w := w) (Nat.le_refl _) W D _ _ (by omega) hK rfl rfl)⟩
  case stop =>
    rintro D c pre W _ _ h _
    exact h.elim
end Go.Proofs.YtpfnmcgcpgcfjaaDoor
