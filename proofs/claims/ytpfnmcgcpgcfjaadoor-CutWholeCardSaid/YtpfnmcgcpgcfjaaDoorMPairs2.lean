/- Contract of model's pairs. -/
import Derived.Test.YtpfnmcgcpgcfjaaDoorMPairs
import Derived.Deep.OwnRows
namespace Go.Proofs.YtpfnmcgcpgcfjaaDoor
open Go.RowKit Tess
/-- What the walk of pairs knows of a world at i merges done. -/
structure PW (w W : World) (g r n : Nat) (vw vm : Value) (ms : List Mg) (i : Nat) : Prop where
  upd : Upd (fun k => k = r) w W
  sz : w.heap.size + 3 ≤ W.heap.size
  bm : W.cell? ⟨w.heap.size, 0, none⟩ = some (.pointer (some ⟨g, 0, none⟩))
  bd : W.cell? ⟨w.heap.size + 1 + 1, 0, none⟩ = some (.slice (some ⟨w.heap.size + 1, 0, none⟩) n n)
  c0 : W.cell? ⟨g, 0, none⟩ = some vw
  c1 : W.cell? ⟨g, 1, none⟩ = some vm
  c6 : W.cell? ⟨g, 6, none⟩ = some (.map (some r))
  made : Marks W (w.heap.size + 1) n (mkN ms i)
  map : W.heap[r]? = some (.map (pairsOf ms i) i)
theorem PW.then {w W W' : World} {g r n : Nat} {vw vm : Value} {ms : List Mg} {i : Nat} (h : PW w W g r n vw vm ms i) (hb : Below W.heap.size W W') : PW w W' g r n vw vm ms i :=
  ⟨h.upd.then (Upd.of_below (F := fun _ => False) hb) (fun _ _ f => f.elim), Nat.le_trans h.sz hb.size, cell_below hb h.bm, cell_below hb h.bd, cell_below hb h.c0, cell_below hb h.c1, cell_below hb h.c6, h.made.below hb, blk_below h.map hb⟩
/-- The merge at hand, in two blocks of the round's own. -/
structure XW (W : World) (X : Nat) (l r id : Int) : Prop where
  lt : X + 1 < W.heap.size
  x0 : W.cell? ⟨X, 0, none⟩ = some (.int .i64 l)
  x1 : W.cell? ⟨X, 1, none⟩ = some (.int .i64 r)
  x2 : W.cell? ⟨X, 2, none⟩ = some (.int .i64 id)
  y0 : W.cell? ⟨X + 1, 0, none⟩ = some (.int .i64 l)
  y1 : W.cell? ⟨X + 1, 1, none⟩ = some (.int .i64 r)
theorem XW.then {W W' : World} {X : Nat} {l r id : Int} (h : XW W X l r id) (hb : Below W.heap.size W W') : XW W' X l r id :=
  ⟨Nat.lt_of_lt_of_le h.lt hb.size, cell_below hb h.x0, cell_below hb h.x1, cell_below hb h.x2, cell_below hb h.y0, cell_below hb h.y1⟩
theorem put_cell {W : World} {r : Nat} {o : Obj} {p : Addr} {v : Value} (h : W.cell? p = some v) (hp : p.block ≠ r) : (put W r o).cell? p = some v :=
  (World.cell?_of_block (put_other W r o p.block hp)).trans h
theorem XW.put {W : World} {X r : Nat} {l rr id : Int} (h : XW W X l rr id) (hr : r < X) (o : Obj) : XW (put W r o) X l rr id :=
  ⟨by rw [put_size]; exact h.lt, put_cell h.x0 (by show X ≠ r; omega), put_cell h.x1 (by show X ≠ r; omega), put_cell h.x2 (by show X ≠ r; omega), put_cell h.y0 (by show X + 1 ≠ r; omega), put_cell h.y1 (by show X + 1 ≠ r; omega)⟩
theorem Marks.put {W : World} {m n : Nat} {f : Nat → Bool} (h : Marks W m n f) {r : Nat} (hr : m ≠ r) (o : Obj) : Marks (put W r o) m n f := by
  obtain ⟨cs, h1, h2, h3⟩ := h
  exact ⟨cs, (put_other W r o m hr).trans h1, h2, h3⟩
/-- The map has got one merge more. -/
theorem PW.put {w W : World} {g r n : Nat} {vw vm : Value} {ms : List Mg} {i : Nat} (h : PW w W g r n vw vm ms i) (hr : r < w.heap.size) (hgr : g ≠ r) :
    (put W r (.map (pairsOf ms (i + 1)) (i + 1))).cell? ⟨w.heap.size, 0, none⟩ = some (.pointer (some ⟨g, 0, none⟩)) ∧
    (put W r (.map (pairsOf ms (i + 1)) (i + 1))).cell? ⟨w.heap.size + 1 + 1, 0, none⟩ = some (.slice (some ⟨w.heap.size + 1, 0, none⟩) n n) ∧
    (put W r (.map (pairsOf ms (i + 1)) (i + 1))).cell? ⟨g, 0, none⟩ = some vw ∧
    (put W r (.map (pairsOf ms (i + 1)) (i + 1))).cell? ⟨g, 1, none⟩ = some vm ∧
    (put W r (.map (pairsOf ms (i + 1)) (i + 1))).cell? ⟨g, 6, none⟩ = some (.map (some r)) ∧
    Marks (put W r (.map (pairsOf ms (i + 1)) (i + 1))) (w.heap.size + 1) n (mkN ms i) ∧
    (put W r (.map (pairsOf ms (i + 1)) (i + 1))).heap[r]? = some (.map (pairsOf ms (i + 1)) (i + 1)) ∧
    Upd (fun k => k = r) w (put W r (.map (pairsOf ms (i + 1)) (i + 1))) ∧ w.heap.size + 3 ≤ (put W r (.map (pairsOf ms (i + 1)) (i + 1))).heap.size :=
  ⟨put_cell h.bm (by show w.heap.size ≠ r; omega), put_cell h.bd (by show w.heap.size + 1 + 1 ≠ r; omega), put_cell h.c0 hgr, put_cell h.c1 hgr, put_cell h.c6 hgr, h.made.put (by omega) _,
   put_same _ _ _ (by have := h.upd.size; omega), h.upd.put (.inl rfl) _, by rw [put_size]; exact h.sz⟩
theorem PW.set {w W : World} {g r n : Nat} {vw vm : Value} {ms : List Mg} {i : Nat} (hr : r < w.heap.size) (hg : g < w.heap.size) (h1 : W.cell? ⟨w.heap.size, 0, none⟩ = some (.pointer (some ⟨g, 0, none⟩)))
    (h2 : W.cell? ⟨w.heap.size + 1 + 1, 0, none⟩ = some (.slice (some ⟨w.heap.size + 1, 0, none⟩) n n)) (h3 : W.cell? ⟨g, 0, none⟩ = some vw) (h4 : W.cell? ⟨g, 1, none⟩ = some vm) (h5 : W.cell? ⟨g, 6, none⟩ = some (.map (some r)))
    (h6 : Marks W (w.heap.size + 1) n (mkN ms i)) (h7 : W.heap[r]? = some (.map (pairsOf ms (i + 1)) (i + 1))) (h8 : Upd (fun k => k = r) w W) (h9 : w.heap.size + 3 ≤ W.heap.size)
    {j : Nat} (hj : (mI ms i - 256).toNat = j) (h256 : 256 ≤ mI ms i) : PW w (W.setCell ⟨w.heap.size + 1, j, none⟩ (.bool true)) g r n vw vm ms (i + 1) := by
  have hc : ∀ (p : Addr) (v : Value), W.cell? p = some v → p.block ≠ w.heap.size + 1 → (W.setCell ⟨w.heap.size + 1, j, none⟩ (.bool true)).cell? p = some v := fun p v a b =>
    (World.cell?_of_block (Below.heap_setCell W _ _ p.block b)).trans a
  refine ⟨h8.setCell (.inr (Nat.le_succ _)) _, by simpa [World.setCell] using h9, hc _ _ h1 (by show w.heap.size ≠ _; omega), hc _ _ h2 (by show w.heap.size + 1 + 1 ≠ _; omega), hc _ _ h3 (by show g ≠ _; omega), hc _ _ h4 (by show g ≠ _; omega), hc _ _ h5 (by show g ≠ _; omega), ?_, blk_other h7 _ _ (by show r ≠ w.heap.size + 1; omega)⟩
  have := h6.set j
  have e : (fun k => if k = j then true else mkN ms i k) = mkN ms (i + 1) := by
    funext k
    rw [mkN_succ ms i k h256, hj]
  rw [← e]
  exact this
theorem pair_lookup (w : World) (r : Nat) (ms : List Mg) (n : Nat) (x y : Int) (h : w.heap[r]? = some (.map (pairsOf ms n) n)) :
    (Instr.lookup 115 (.map (some r)) (.agg #[.int .i64 x, .int .i64 y]) true).run Tryd.prog w =
      Result.ok (.tuple #[match firstOf (pairAt ms x y) n with | some j => .agg #[.int .i64 (j : Nat), .int .i64 (mI ms j)] | none => .agg #[.int .i64 0, .int .i64 0], .bool (firstOf (pairAt ms x y) n).isSome]) w :=
  lookup_pair (P := Tryd.prog) Tryd.underlying115 Tryd.underlying194 Tryd.underlying3 (fun _ => by kernel_rfl) (fun _ _ _ => ⟨by kernel_rfl, by kernel_rfl⟩) (fun _ => by kernel_rfl) w r ms n x y h
theorem pair_update (w : World) (r : Nat) (ms : List Mg) (n : Nat) (h : w.heap[r]? = some (.map (pairsOf ms n) n)) (hn : firstOf (pairAt ms (mL ms n) (mR ms n)) n = none) :
    (Instr.mapUpdate 115 (.map (some r)) (.agg #[.int .i64 (mL ms n), .int .i64 (mR ms n)]) (.agg #[.int .i64 (n : Nat), .int .i64 (mI ms n)])).run Tryd.prog w = Result.ok () (put w r (.map (pairsOf ms (n + 1)) (n + 1))) :=
  update_pair (P := Tryd.prog) Tryd.underlying115 Tryd.underlying194 Tryd.underlying3 (fun _ => by kernel_rfl) (fun _ _ _ => ⟨by kernel_rfl, by kernel_rfl⟩) w r ms n h hn
set_option maxHeartbeats 16000000 in
set_option maxRecDepth 100000 in
theorem model_pairs (w : World) (g t r : Nat) (vw vm va vb vc : Value) (ws : List ByteArray) (ms : List Mg) (lg : Int)
    (hg : w.heap[g]? = some (.cells #[vw, vm, va, vb, vc, .pointer (some ⟨t, 0, none⟩), .map (some r), .int .i64 lg] 117 (0, 0)))
    (hr : w.heap[r]? = some (.map #[] 0)) (hW : StrsIn w vw ws) (hM : MergesIn w vm ms) (hlw : ws.length ≤ 4096) (hlm : ms.length ≤ 4096)
    (hne : ∀ b, vw.ownBlock = some b → 0 < ws.length → b ≠ r ∧ b < w.heap.size) (hne2 : ∀ b, vm.ownBlock = some b → 0 < ms.length → b ≠ r ∧ b < w.heap.size) :
   Calls Tryd.prog 85 #[.pointer (some ⟨g, 0, none⟩)] w fun e w' => e = .returned (.tuple #[.int .i64 (((mergesL ws ms).2.2 : Nat) : Int), .int .i64 (((mergesL ws ms).1 : Nat) : Int)]) ∧ Upd (fun k => k = r) w w' ∧
     ((mergesL ws ms).1 = 0 → w'.heap[r]? = some (.map (pairsOf ms ms.length) ms.length)) := by
  obtain ⟨A, c, rfl⟩ := hW.form
  obtain ⟨A', c', rfl⟩ := hM.form
  have HW := Lib.hid hW
  have HM := Lib.hid hM
  have hgr : g ≠ r := by
    rintro rfl
    have := hg.symm.trans hr
    simp at this
  have hrl := blk_lt hr
  have HG := Lib.hid hg
  have HR0 := Lib.hid hr
  have HNE := Lib.hid hne
  have HNE2 := Lib.hid hne2
  have hc0 := (blk_cell hg 0).trans (rfl : _ = some (Value.slice A ws.length c))
  have hc1 := (blk_cell hg 1).trans (rfl : _ = some (Value.slice A' ms.length c'))
  have hgl := blk_lt hg
  clear hW hM hg hr hne hne2
  obtain ⟨p, q, rr0, hck⟩ : ∃ p q rr, mergesL ws ms = (p, q, rr) := ⟨_, _, _, rfl⟩
  rw [hck]
  have HCK := Lib.hid hck
  clear hck
  have hinfo : (Tryd.prog.info? 4).map (fun i => (i.zero, i.size, i.bytes)) = some (some (.bool false), 1, 1) := by kernel_rfl
  have hmk : ∀ W : World, (Instr.makeSlice 192 (.int .i64 (ws.length : Int)) (.int .i64 (ws.length : Int))).run Tryd.prog W = .ok (.slice (some ⟨W.heap.size, 0, none⟩) ws.length ws.length) (W.alloc (.cells (madeCells #[.bool false] ws.length) 4)) := by
    intro W
    exact run_make_row' 192 4 (.bool false) 1 Tryd.underlying192 hinfo rfl .i64 .i64 ws.length (by omega) (by omega) W
  have hgl1 : g < w.heap.size + 1 := by omega
  have hgl2 : g < w.heap.size + 1 + 1 := by omega
  have hst : PW w (((w.alloc (Obj.cells #[.pointer (some ⟨g, 0, none⟩)] 27)).alloc (Obj.cells (madeCells #[.bool false] ws.length) 4)).alloc (Obj.cells #[.slice (some ⟨w.heap.size + 1, 0, none⟩) ws.length ws.length] 192)) g r ws.length (.slice A ws.length c) (.slice A' ms.length c') ms 0 := by
    have hb : Below w.heap.size w (((w.alloc (Obj.cells #[.pointer (some ⟨g, 0, none⟩)] 27)).alloc (Obj.cells (madeCells #[.bool false] ws.length) 4)).alloc (Obj.cells #[.slice (some ⟨w.heap.size + 1, 0, none⟩) ws.length ws.length] 192)) := by (repeat (first | with_reducible exact Below.refl _ _ | assumption | refine Below.drew ?_ | refine below_drewN ?_ _ | refine Below.alloc ?_ (by first | omega | (simp; done) | (simp; omega)) _ | refine Below.setCell ?_ (by first | omega | (simp; done) | (simp; omega)) _))
    refine ⟨Upd.of_below hb, by simp, by go_simp, by go_simp, cell_below hb hc0, cell_below hb hc1, cell_below hb ((blk_cell HG.out 6).trans rfl), ⟨madeCells #[.bool false] ws.length, ?_, by simp [madeCells], fun j hj => ?_⟩, blk_below HR0.out hb⟩
    · refine blk_old ?_ _
      have := blk_new (w.alloc (Obj.cells #[.pointer (some ⟨g, 0, none⟩)] 27)) (Obj.cells (madeCells #[.bool false] ws.length) 4)
      simpa using this
    · simp [madeCells, hj, mkN, firstOf, firstFrom, Nat.mod_one]
  have HST := Lib.hid hst
  clear hst
  go_enter Tryd.func85, Tryd.ntmps85
  go_wp2
  generalize (((w.alloc (Obj.cells #[.pointer (some ⟨g, 0, none⟩)] 27)).alloc (Obj.cells (madeCells #[.bool false] ws.length) 4)).alloc (Obj.cells #[.slice (some ⟨w.heap.size + 1, 0, none⟩) ws.length ws.length] 192)) = W0 at HST ⊢
  clear hc0 hc1 hmk hinfo
  go_loopw [29] (fun s W => ∃ i : Nat, i ≤ ms.length ∧ s = .int .i64 i ∧ (∀ j, j < i → mergeBad ws ms j = 0) ∧ PW w W g r ws.length (.slice A ws.length c) (.slice A' ms.length c') ms i) (fun s _ => ms.length - (intOf s).toNat)
  case atStart => exact ⟨0, Nat.zero_le _, rfl, by omega, HST.out⟩
  case round =>
    clear HST
    obtain ⟨i, hi, rfl, hj, h5⟩ := hrel
    have HJ := Lib.hid hj
    have H5 := Lib.hid h5
    have HU0 := Lib.hid h5.upd
    clear hj h5
    by_cases hlt : i < ms.length
    · have hSM := HM.out.same (SameAt.of_upd H5.out.upd fun b hb => ⟨(HNE2.out b hb (by omega)).2, (HNE2.out b hb (by omega)).1⟩)
      obtain ⟨b, off, rfl, hc1, hc2, hc3⟩ := hSM.at_ i hlt
      obtain ⟨⟨bl1, bl2⟩, ⟨br1, br2⟩, ⟨bi1, bi2⟩⟩ := HM.out.2.1 i
      have hbl : b < wr.heap.size := World.block_lt_of_cell? _ _ hc1
      obtain ⟨l, hl⟩ : ∃ x, x = mL ms i := ⟨_, rfl⟩
      obtain ⟨rr, hr⟩ : ∃ x, x = mR ms i := ⟨_, rfl⟩
      obtain ⟨id, hid⟩ : ∃ x, x = mI ms i := ⟨_, rfl⟩
      rw [← hl] at hc1 bl1 bl2
      rw [← hr] at hc2 br1 br2
      rw [← hid] at hc3 bi1 bi2
      have HL := Lib.hid hl
      have HR := Lib.hid hr
      have HI := Lib.hid hid
      clear hl hr hid hSM
      have hba : Below wr.heap.size wr ((wr.alloc (Obj.cells #[.int .i64 l, .int .i64 rr, .int .i64 id] 133)).alloc (Obj.cells #[.int .i64 l, .int .i64 rr] 194)) := by (repeat (first | with_reducible exact Below.refl _ _ | assumption | refine Below.drew ?_ | refine below_drewN ?_ _ | refine Below.alloc ?_ (by first | omega | (simp; done) | (simp; omega)) _ | refine Below.setCell ?_ (by first | omega | (simp; done) | (simp; omega)) _))
      have h5 := H5.out.then hba
      have hxx : XW ((wr.alloc (Obj.cells #[.int .i64 l, .int .i64 rr, .int .i64 id] 133)).alloc (Obj.cells #[.int .i64 l, .int .i64 rr] 194)) wr.heap.size l rr id := ⟨by simp, by go_simp, by go_simp, by go_simp, by go_simp, by go_simp⟩
      have HX := Lib.hid hxx
      have H5' := Lib.hid h5
      clear hba h5 hxx H5
      have H5 := H5'
      clear H5'
      go_wp2
      generalize ((wr.alloc (Obj.cells #[.int .i64 l, .int .i64 rr, .int .i64 id] 133)).alloc (Obj.cells #[.int .i64 l, .int .i64 rr] 194)) = W1 at HX H5 ⊢
      clear hc1 hc2 hc3 hbl
      obtain ⟨_, g0, g1, g2, g3, g4, g5, _, _⟩ := H5.out
      obtain ⟨k0, k1, k2, k3, k4, k5⟩ := HX.out
      have HU := Lib.hid H5.out.upd
      have hrange : ∀ k, k < i → 256 ≤ mI ms k ∧ mI ms k - 256 < (ws.length : Int) := by
        intro k hk
        have := HJ.out k hk
        unfold mergeBad at this
        split at this
        · simp at this
        · rename_i h; omega
      have HRG := Lib.hid hrange
      clear hrange
      have hsz : ∀ n, Calls Tryd.prog 77 #[.pointer (some ⟨g, 0, none⟩)] (W1.drewN n) fun e w' => e = .returned (.int .i64 (256 + (ws.length : Int))) ∧ ∃ m, w' = W1.drewN m := fun n =>
        (model_Size (W1.drewN n) g A ws.length c g3 (by omega)).mono fun _ _ ⟨a, b⟩ => ⟨a, n, b.symm⟩
      have HSZ := Lib.hid hsz
      clear hsz
      by_cases h1 : id < 256
      · obtain ⟨rfl, rfl, rfl⟩ := mergesL_at HCK.out hlt (mergeBad_24 (.inl (by rw [← HI.out]; exact h1))) (by simp) HJ.out
        have hd : decide (id < 256) = true := by simpa using h1
        go_quiet (fail)
        go_wp2
        go_ret2
        first | exact ⟨rfl, HU.out.drewN _, by simp⟩ | exact ⟨rfl, HU.out.drewN _⟩ | exact ⟨rfl, HU.out.drewN _, fun h => absurd h (by simp)⟩ | exact ⟨rfl, HU.out, by simp⟩ | exact ⟨rfl, HU.out⟩
      have hd : decide (id < 256) = false := by simpa using h1
      have h1' : 256 ≤ id := by omega
      by_cases h2 : (ws.length : Int) ≤ id - 256
      · obtain ⟨rfl, rfl, rfl⟩ := mergesL_at HCK.out hlt (mergeBad_24 (.inr (.inl (by rw [← HI.out]; exact h2)))) (by simp) HJ.out
        have hd2 : decide ((256 : Int) + ws.length ≤ id) = true := by simp; omega
        go_quiet ((go_at_call 77; exact HSZ.out _))
        go_wp2
        go_ret2
        first | exact ⟨rfl, HU.out.drewN _, by simp⟩ | exact ⟨rfl, HU.out.drewN _⟩ | exact ⟨rfl, HU.out.drewN _, fun h => absurd h (by simp)⟩ | exact ⟨rfl, HU.out, by simp⟩ | exact ⟨rfl, HU.out⟩
      have hd2 : decide ((256 : Int) + ws.length ≤ id) = false := by simp; omega
      have h2' : id - 256 < (ws.length : Int) := by omega
      have h3' : id < (ws.length : Int) + 256 := by omega
      have h4' : id < 256 + (ws.length : Int) := by omega
      have h5' : (0 : Int) ≤ id - 256 := by omega
      have hs1 : IntKind.i64.wrap (id - 256) = id - 256 := Go.IntWalk.i64_in _ (by omega)
      have HS1 := Lib.hid hs1
      clear hs1
      obtain ⟨j, hj⟩ : ∃ j : Nat, (id - 256).toNat = j := ⟨_, rfl⟩
      have hjl : j < ws.length := by omega
      have hmc := H5.out.made.cell j hjl
      have hmk := madeB_mk (ms := ms) (i := i) (id := id) (by omega)
      rw [hj, decide_eq_true h1', Bool.true_and] at hmk
      have HMK := Lib.hid hmk
      have HJJ := Lib.hid hj
      clear hj hmk h1 h2
      cases q3 : mkN ms i j
      case true =>
        obtain ⟨rfl, rfl, rfl⟩ := mergesL_at HCK.out hlt (mergeBad_24 (.inr (.inr (by rw [← HI.out, HMK.out]; exact q3)))) (by simp) HJ.out
        rw [q3] at hmc
        clear q3 HMK
        have hs1 := HS1.out
        have hj := HJJ.out
        go_quiet ((go_at_call 77; exact HSZ.out _))
        clear hs1 hj
        go_wp2
        go_ret2
        first | exact ⟨rfl, HU.out.drewN _, by simp⟩ | exact ⟨rfl, HU.out.drewN _⟩ | exact ⟨rfl, HU.out.drewN _, fun h => absurd h (by simp)⟩ | exact ⟨rfl, HU.out, by simp⟩ | exact ⟨rfl, HU.out⟩
      rw [q3] at hmc
      have HM3 := Lib.hid (HMK.out.trans q3)
      clear q3 HMK
      have hs1 := HS1.out
      have hj := HJJ.out
      go_quiet ((go_at_call 77; exact HSZ.out _))
      clear hs1 hj
      have h5 := H5.out.then (below_drewN (Below.refl _ _) nq)
      have hx := HX.out.then (below_drewN (Below.refl _ _) nq)
      have H5' := Lib.hid h5
      have HX' := Lib.hid hx
      clear h5 hx hmc HSZ H5 HX
      clear g0 g1 g2 g3 g4 g5 k0 k1 k2 k3 k4 k5 HU
      generalize W1.drewN nq = W2 at H5' HX' ⊢
      have H5 := H5'
      have HX := HX'
      clear H5' HX'
      obtain ⟨_, g0, g1, g2, g3, g4, g5, _, _⟩ := H5.out
      obtain ⟨k0, k1, k2, k3, k4, k5⟩ := HX.out
      have HU := Lib.hid H5.out.upd
      have hpart : ∀ x : Int, -9223372036854775808 ≤ x ∧ x ≤ 9223372036854775807 → Calls Tryd.prog 110 #[.int .i64 x, .pointer (some ⟨w.heap.size, 0, none⟩), .pointer (some ⟨w.heap.size + 1 + 1, 0, none⟩)] W2 fun e w' => e = .returned (.bool (madeB ms i x)) ∧ W2 = w' := by
        intro x hx
        have h := pairs_part W2 g (w.heap.size + 1) w.heap.size (w.heap.size + 1 + 1) A ws.length c (mkN ms i) x hx (by omega) g3 g1 g2 H5.out.made
        rw [madeB_part HRG.out] at h
        exact h
      have HPT := Lib.hid hpart
      clear hpart
      go_wp2_with fail
      refine (HPT.out l ⟨bl1, bl2⟩).mono ?_
      rintro e w' ⟨rfl, rfl⟩
      cases q4 : madeB ms i l
      case false =>
        obtain ⟨rfl, rfl, rfl⟩ := mergesL_at HCK.out hlt (mergeBad_23 (by rw [← HI.out]; exact h1') (by rw [← HI.out]; exact h2') (by rw [← HI.out]; exact HM3.out) (.inl (by rw [← HL.out]; exact q4))) (by simp) HJ.out
        go_wp2
        go_ret2
        first | exact ⟨rfl, HU.out, by simp⟩ | exact ⟨rfl, HU.out⟩ | exact ⟨rfl, HU.out, fun h => absurd h (by simp)⟩ | exact ⟨rfl, HU.out.drewN _, by simp⟩ | exact ⟨rfl, HU.out.drewN _⟩ | exact ⟨rfl, HU.out.drewN _, fun h => absurd h (by simp)⟩
      have Q4 := Lib.hid q4
      clear q4
      go_wp2_with fail
      refine (HPT.out rr ⟨br1, br2⟩).mono ?_
      rintro e w' ⟨rfl, rfl⟩
      cases q5 : madeB ms i rr
      case false =>
        obtain ⟨rfl, rfl, rfl⟩ := mergesL_at HCK.out hlt (mergeBad_23 (by rw [← HI.out]; exact h1') (by rw [← HI.out]; exact h2') (by rw [← HI.out]; exact HM3.out) (.inr (by rw [← HR.out]; exact q5))) (by simp) HJ.out
        go_wp2
        go_ret2
        first | exact ⟨rfl, HU.out, by simp⟩ | exact ⟨rfl, HU.out⟩ | exact ⟨rfl, HU.out, fun h => absurd h (by simp)⟩ | exact ⟨rfl, HU.out.drewN _, by simp⟩ | exact ⟨rfl, HU.out.drewN _⟩ | exact ⟨rfl, HU.out.drewN _, fun h => absurd h (by simp)⟩
      have Q5 := Lib.hid q5
      clear q5 HPT
      have hSW := HW.out.same (SameAt.of_upd H5.out.upd fun b hb => ⟨(HNE.out b hb (by omega)).2, (HNE.out b hb (by omega)).1⟩)
      have HSW := Lib.hid hSW
      clear hSW
      go_wp2_with fail
      refine (model_Word _ g _ ws l g3 HSW.out ⟨bl1, bl2⟩).mono ?_
      rintro e W3 ⟨rfl, hb2⟩
      have h5 := H5.out.then hb2
      have hx := HX.out.then hb2
      have hSW := HSW.out.below hb2
      clear HSW H5 HX hb2
      have HSW := Lib.hid hSW
      have H5 := Lib.hid h5
      have HX := Lib.hid hx
      clear h5 hx hSW
      clear g0 g1 g2 g3 g4 g5 k0 k1 k2 k3 k4 k5 HU
      obtain ⟨_, g0, g1, g2, g3, g4, g5, _, _⟩ := H5.out
      obtain ⟨k0, k1, k2, k3, k4, k5⟩ := HX.out
      have HU := Lib.hid H5.out.upd
      go_wp2_with fail
      refine (model_Word _ g _ ws rr g3 HSW.out ⟨br1, br2⟩).mono ?_
      rintro e W4 ⟨rfl, hb2⟩
      have h5 := H5.out.then hb2
      have hx := HX.out.then hb2
      have hSW := HSW.out.below hb2
      clear HSW H5 HX hb2
      have HSW := Lib.hid hSW
      have H5 := Lib.hid h5
      have HX := Lib.hid hx
      clear h5 hx hSW
      clear g0 g1 g2 g3 g4 g5 k0 k1 k2 k3 k4 k5 HU
      obtain ⟨_, g0, g1, g2, g3, g4, g5, _, _⟩ := H5.out
      obtain ⟨k0, k1, k2, k3, k4, k5⟩ := HX.out
      have HU := Lib.hid H5.out.upd
      go_wp2_with fail
      obtain ⟨b2, off2, hA2, hcw⟩ := HSW.out.at_ j hjl
      subst hA2
      have hsx := HW.out.2.1 j
      have hwj : wAt ws (id - 256).toNat = wAt ws j := by rw [HJJ.out]
      obtain ⟨x, hx⟩ : ∃ x, x = wAt ws j := ⟨_, rfl⟩
      obtain ⟨y, hy⟩ : ∃ y, y = wordD ws l := ⟨_, rfl⟩
      obtain ⟨z, hz⟩ : ∃ z, z = wordD ws rr := ⟨_, rfl⟩
      rw [← hx] at hcw hsx hwj
      have hsy : y.size ≤ 140737488355328 := by rw [hy]; exact wordD_size HW.out.2.1 _
      have hsw : z.size ≤ 140737488355328 := by rw [hz]; exact wordD_size HW.out.2.1 _
      have hss : y.size + z.size ≤ 9223372036854775807 := by omega
      rw [← hy, ← hz]
      have HXX := Lib.hid hwj
      have HY := Lib.hid hy
      have HZ := Lib.hid hz
      have hb2l := World.block_lt_of_cell? _ _ hcw
      clear hx hy hz hwj
      by_cases q6 : (x.toList == (y ++ z).toList) = true
      case neg =>
        have hne' : (x.toList == (y ++ z).toList) = false := by simpa using q6
        have hw : wAt ws (mI ms i - 256).toNat ≠ wordD ws (mL ms i) ++ wordD ws (mR ms i) := by
          rw [← HI.out, ← HL.out, ← HR.out, HXX.out, ← HY.out, ← HZ.out]
          intro e
          rw [e] at hne'
          simp at hne'
        obtain ⟨rfl, rfl, rfl⟩ := mergesL_at HCK.out hlt (mergeBad_25 (by rw [← HI.out]; exact h1') (by rw [← HI.out]; exact h2') (by rw [← HI.out]; exact HM3.out) (by rw [← HL.out]; exact Q4.out) (by rw [← HR.out]; exact Q5.out) hw) (by simp) HJ.out
        clear q6 hw
        have hs1 := HS1.out
        have hj := HJJ.out
        go_quiet (fail)
        clear hs1 hj
        go_wp2
        go_ret2
        first | exact ⟨rfl, HU.out, by simp⟩ | exact ⟨rfl, HU.out⟩ | exact ⟨rfl, HU.out, fun h => absurd h (by simp)⟩ | exact ⟨rfl, HU.out.drewN _, by simp⟩ | exact ⟨rfl, HU.out.drewN _⟩ | exact ⟨rfl, HU.out.drewN _, fun h => absurd h (by simp)⟩
      have hw : wAt ws (mI ms i - 256).toNat = wordD ws (mL ms i) ++ wordD ws (mR ms i) := by
        rw [← HI.out, ← HL.out, ← HR.out, HXX.out, ← HY.out, ← HZ.out]
        exact toList_inj (by simpa using q6)
      have HW6 := Lib.hid hw
      clear hw
      have hs1 := HS1.out
      have hj := HJJ.out
      go_quiet (fail)
      clear hs1 hj q6
      have h5 := H5.out.then (below_drewN (Below.refl _ _) nq)
      have hx := HX.out.then (below_drewN (Below.refl _ _) nq)
      have H5' := Lib.hid h5
      have HX' := Lib.hid hx
      clear h5 hx H5 HX HSW hcw hb2l
      clear g0 g1 g2 g3 g4 g5 k0 k1 k2 k3 k4 k5 HU
      generalize W4.drewN nq = W5 at H5' HX' ⊢
      have H5 := H5'
      have HX := HX'
      clear H5' HX' hsx hsy hsw hss
      obtain ⟨_, g0, g1, g2, g3, g4, g5, _, _⟩ := H5.out
      obtain ⟨k0, k1, k2, k3, k4, k5⟩ := HX.out
      have HU := Lib.hid H5.out.upd
      go_wp2_with fail
      obtain ⟨o, ho⟩ : ∃ o, firstOf (pairAt ms l rr) i = o := ⟨_, rfl⟩
      have hlk := fun W h => pair_lookup W r ms i l rr h
      rw [ho] at hlk
      have hlk1 := hlk W5.drew H5.out.map
      have hlk2 := hlk (W5.alloc (Obj.cells #[.int .i64 0, .int .i64 0] 196)).drew (blk_old H5.out.map _)
      clear hlk
      have gs0 : w.heap.size < W5.heap.size := by omega
      have gs1 : w.heap.size + 1 < W5.heap.size := by omega
      have gs2 : w.heap.size + 1 + 1 < W5.heap.size := by omega
      have gs3 : g < W5.heap.size := World.block_lt_of_cell? _ _ g3
      have gs4 : wr.heap.size < W5.heap.size := by omega
      cases o with
      | some j0 =>
        have hjb := firstOf_inv ho
        have h22 : mergeBad ws ms i = 22 := mergeBad_22 (j := j0) (by rw [← HI.out]; exact h1') (by rw [← HI.out]; exact h2') (by rw [← HI.out]; exact HM3.out) (by rw [← HL.out]; exact Q4.out) (by rw [← HR.out]; exact Q5.out) HW6.out hjb.1 (by rw [← HL.out, ← HR.out]; exact hjb.2.1) (by rw [← HL.out, ← HR.out]; exact hjb.2.2)
        obtain ⟨rfl, rfl, rfl⟩ := mergesL_at HCK.out hlt h22 (by simp) HJ.out
        clear hjb h22 ho
        go_region
        all_goals go_wp2
        all_goals go_ret2
        all_goals first | exact ⟨rfl, (HU.out.alloc _).drew, by simp⟩ | exact ⟨rfl, (HU.out.alloc _).drew⟩
      | none =>
        have h0 : mergeBad ws ms i = 0 := mergeBad_0 (by rw [← HI.out]; exact h1') (by rw [← HI.out]; exact h2') (by rw [← HI.out]; exact HM3.out) (by rw [← HL.out]; exact Q4.out) (by rw [← HR.out]; exact Q5.out) HW6.out (by rw [← HL.out, ← HR.out]; exact firstOf_inv_none ho)
        have H00 := Lib.hid h0
        have HO := Lib.hid ho
        clear h0 ho
        go_region
        all_goals
          have hba : Below W5.heap.size W5 (W5.alloc (Obj.cells #[.int .i64 0, .int .i64 0] 196)).drew := by (repeat (first | with_reducible exact Below.refl _ _ | assumption | refine Below.drew ?_ | refine below_drewN ?_ _ | refine Below.alloc ?_ (by first | omega | (simp; done) | (simp; omega)) _ | refine Below.setCell ?_ (by first | omega | (simp; done) | (simp; omega)) _))
          have h5 := H5.out.then hba
          have hx := HX.out.then hba
          have H5' := Lib.hid h5
          have HX' := Lib.hid hx
          clear h5 hx H5 HX hlk1 hlk2 hba gs0 gs1 gs2 gs3 gs4
          clear g0 g1 g2 g3 g4 g5 k0 k1 k2 k3 k4 k5 HU
          generalize (W5.alloc (Obj.cells #[.int .i64 0, .int .i64 0] 196)).drew = W6 at H5' HX' ⊢
          have H5 := H5'
          have HX := HX'
          clear H5' HX'
          obtain ⟨_, g0, g1, g2, g3, g4, g5, _, _⟩ := H5.out
          obtain ⟨k0, k1, k2, k3, k4, k5⟩ := HX.out
          have HU := Lib.hid H5.out.upd
          have hup := pair_update W6.drew r ms i H5.out.map (by rw [← HL.out, ← HR.out]; exact HO.out)
          rw [← HL.out, ← HR.out, ← HI.out] at hup
          have hx := HX.out.then (below_drewN (Below.refl _ _) 1)
          have h5 := H5.out.then (below_drewN (Below.refl _ _) 1)
          have hxp := hx.put (r := r) (by have := HU0.out.size; omega) (Obj.map (pairsOf ms (i + 1)) (i + 1))
          have hpp := h5.put hrl hgr
          have e : W6.drewN 1 = W6.drew := rfl
          rw [e] at hxp hpp
          have HX' := Lib.hid hxp
          have HP := Lib.hid hpp
          clear hx h5 hxp hpp HX H5 e
          generalize put W6.drew r (Obj.map (pairsOf ms (i + 1)) (i + 1)) = W7 at hup HX' HP
          go_wp2_with fail
          have gs0 : w.heap.size < W6.heap.size := by omega
          have gs1 : w.heap.size + 1 < W6.heap.size := by omega
          have gs2 : w.heap.size + 1 + 1 < W6.heap.size := by omega
          have gs4 : wr.heap.size < W6.heap.size := by omega
          go_region
          all_goals
            clear g0 g1 g2 g3 g4 g5 k0 k1 k2 k3 k4 k5 gs0 gs1 gs2 gs4 hup
            obtain ⟨g1, g2, g3, g4, g5, g6, g7, g8, g9⟩ := HP.out
            obtain ⟨k0, k1, k2, k3, k4, k5⟩ := HX'.out
            have hmc := g6.cell j hjl
            have hmf := g6.free j
            have hfin := PW.set hrl hgl g1 g2 g3 g4 g5 g6 g7 g8 g9 (j := j) (by rw [← HI.out]; exact HJJ.out) (by rw [← HI.out]; exact h1')
            have HFIN := Lib.hid hfin
            clear hfin g6 g7 g8 g9
            have hs1 := HS1.out
            have hj := HJJ.out
            go_wp2
            go_roundw
            case rel =>
              exact ⟨i + 1, by omega, by go_num, fun k hk => by
                by_cases e : k = i
                · subst e; exact H00.out
                · exact HJ.out k (by omega), HFIN.out⟩
            case measure => (simp [intOf]; try omega)
    · go_wp2
      have e := HCK.out.symm.trans (firstL_good (p := mergeBad ws ms) (l := 5) fun j hj => HJ.out j (by omega))
      simp only [Prod.mk.injEq] at e
      obtain ⟨rfl, rfl, rfl⟩ := e
      obtain rfl : i = ms.length := by omega
      go_ret2
      first | exact ⟨rfl, H5.out.upd, fun _ => H5.out.map⟩ | exact ⟨rfl, H5.out.upd, H5.out.map⟩
end Go.Proofs.YtpfnmcgcpgcfjaaDoor
