/- Contract of model.New. -/
import Derived.Test.YtpfnmcgcpgcfjaaDoorMPairs2
import Derived.Test.YtpfnmcgcpgcfjaaDoorCopied
import Derived.Test.YtpfnmcgcpgcfjaaDoorClassNew
namespace Go.Proofs.YtpfnmcgcpgcfjaaDoor
open Go.RowKit Tess
theorem own_str {w : World} {v : Value} {l : List ByteArray} (h : StrsIn w v l) (b : Nat) (hb : v.ownBlock = some b) (hl : 0 < l.length) : b < w.heap.size := by
  obtain ⟨A, c, rfl⟩ := h.form
  obtain ⟨b', off, rfl, hc⟩ := h.at_ 0 hl
  simp [Value.ownBlock] at hb
  subst hb
  exact World.block_lt_of_cell? _ _ hc
theorem own_mrg {w : World} {v : Value} {l : List Mg} (h : MergesIn w v l) (b : Nat) (hb : v.ownBlock = some b) (hl : 0 < l.length) : b < w.heap.size := by
  obtain ⟨A, c, rfl⟩ := h.form
  obtain ⟨b', off, rfl, hc, _⟩ := h.at_ 0 hl
  simp [Value.ownBlock] at hb
  subst hb
  exact World.block_lt_of_cell? _ _ hc
/-- To write what is there turns nothing. -/
theorem setCell_id {w : World} {p : Addr} {v : Value} (h : w.cell? p = some v) : w.setCell p v = w := by
  have e : (w.heap.modify p.block fun | .cells c elem frozen => .cells (if p.spot.isSome then c else c.setIfInBounds p.off v) elem frozen | o => o) = w.heap := by
    apply Array.ext
    · simp
    · intro i h1 h2
      rw [Array.getElem_modify]
      split
      · rename_i hi
        subst hi
        unfold World.cell? at h
        rw [Array.getElem?_eq_getElem h2] at h
        split at h
        · rename_i c el fr hc
          simp only [Option.some.injEq] at hc
          rw [hc]
          by_cases hs : p.spot.isSome = true
          · simp [hs]
          · rw [if_neg hs] at h
            simp only [Obj.cells.injEq, and_true]
            rw [if_neg hs]
            apply Array.ext
            · simp
            · intro j h3 h4
              rw [Array.getElem_setIfInBounds]
              split
              · rename_i hj
                subst hj
                rw [Array.getElem?_eq_getElem h4] at h
                simpa using h.symm
              · rfl
        · simp at h
      · rfl
  exact congrArg (fun h => ({ w with heap := h } : World)) e
/-- A right model of d, at block g. -/
def IsModel (w : World) (g : Nat) (d : Dat) : Prop :=
  check5 d = (0, 0, 0) ∧ ∃ vw vm va vb vc t r, w.heap[g]? = some (.cells #[vw, vm, va, vb, vc, .pointer (some ⟨t, 0, none⟩), .map (some r), .int .i64 (longN d.words d.words.length : Nat)] 117 (0, 0)) ∧
    w.heap[r]? = some (.map (pairsOf d.merges d.merges.length) d.merges.length) ∧ DataIn w vw vm va vb vc d ∧ IsTable w t d ∧ RightD d
theorem IsModel.below {w w' : World} {g : Nat} {d : Dat} (h : IsModel w g d) (hb : Below w.heap.size w w') : IsModel w' g d := by
  obtain ⟨h0, vw, vm, va, vb, vc, t, r, h1, h2, h3, h4, h5⟩ := h
  exact ⟨h0, vw, vm, va, vb, vc, t, r, blk_below h1 hb, blk_below h2 hb, h3.below hb, h4.below hb, h5⟩
theorem check5_many {d : Dat} (h : 4096 < d.merges.length) : check5 d = (4, 5, 4096) := by unfold check5; rw [if_pos h]
theorem check5_len {d : Dat} (h : d.merges.length ≤ 4096) (h2 : d.words.length ≠ d.merges.length) : check5 d = (4, 4, min d.words.length d.merges.length) := by unfold check5; rw [if_neg (by omega), if_pos h2]
theorem check5_4 {d : Dat} (h : d.merges.length ≤ 4096) (h2 : d.words.length = d.merges.length) {p q r : Nat} (h3 : check4 d.letters d.numbers d.spaces = (p, q, r)) (h4 : p ≠ 0) : check5 d = (p, q, r) := by
  unfold check5; rw [if_neg (by omega), if_neg (by simpa using h2), if_pos (by rw [h3]; exact h4), h3]
theorem check5_w {d : Dat} (h : d.merges.length ≤ 4096) (h2 : d.words.length = d.merges.length) (h3 : check4 d.letters d.numbers d.spaces = (0, 0, 0)) (h4 : (wordsL d.words).1 ≠ 0) : check5 d = wordsL d.words := by
  unfold check5; rw [if_neg (by omega), if_neg (by simpa using h2), if_neg (by rw [h3]; simp), if_pos h4]
theorem check5_m {d : Dat} (h : d.merges.length ≤ 4096) (h2 : d.words.length = d.merges.length) (h3 : check4 d.letters d.numbers d.spaces = (0, 0, 0)) (h4 : (wordsL d.words).1 = 0) : check5 d = mergesL d.words d.merges := by
  unfold check5; rw [if_neg (by omega), if_neg (by simpa using h2), if_neg (by rw [h3]; simp), if_neg (by simpa using h4)]
theorem wordsL_list {ws : List ByteArray} (h : (wordsL ws).1 ≠ 0) : (wordsL ws).2.1 = 4 := by
  unfold wordsL at *
  split at h
  · rfl
  · simp at h
theorem mergesL_list {ws : List ByteArray} {ms : List Mg} (h : (mergesL ws ms).1 ≠ 0) : (mergesL ws ms).2.1 = 5 := by
  unfold mergesL at *
  split at h
  · rfl
  · simp at h
theorem wordsL_none {ws : List ByteArray} (h : (wordsL ws).1 = 0) : wordsL ws = (0, 0, 0) := by
  unfold wordsL at *
  split
  · rename_i i hi
    rw [hi] at h
    have := (firstOf_inv hi).2.1
    simp at this h
    omega
  · rfl
theorem mergesL_none {ws : List ByteArray} {ms : List Mg} (h : (mergesL ws ms).1 = 0) : mergesL ws ms = (0, 0, 0) := by
  unfold mergesL at *
  split
  · rename_i i hi
    rw [hi] at h
    have := (firstOf_inv hi).2.1
    simp at this h
    omega
  · rfl
/-- What New answers. -/
def MadeSaid (w : World) (d : Dat) (e : Ending) (w' : World) : Prop :=
  Below w.heap.size w w' ∧ ((∃ g, check5 d = (0, 0, 0) ∧ e = .returned (.tuple #[.pointer (some ⟨g, 0, none⟩), .agg #[.int .i64 0, .int .i64 0, .int .i64 0]]) ∧ IsModel w' g d) ∨
    (∃ p q r : Nat, check5 d = (p, q, r) ∧ p ≠ 0 ∧ e = .returned (.tuple #[.pointer none, .agg #[.int .i64 (p : Nat), .int .i64 (q : Nat), .int .i64 (r : Nat)]])))
/-- What New's walk knows of a world. -/
structure NW (w W : World) (vw vm va vb vc : Value) : Prop where
  below : Below w.heap.size w W
  sz : w.heap.size + 2 ≤ W.heap.size
  d0 : W.cell? ⟨w.heap.size, 0, none⟩ = some vw
  d1 : W.cell? ⟨w.heap.size, 1, none⟩ = some vm
  d2 : W.cell? ⟨w.heap.size, 2, none⟩ = some va
  d3 : W.cell? ⟨w.heap.size, 3, none⟩ = some vb
  d4 : W.cell? ⟨w.heap.size, 4, none⟩ = some vc
  e0 : W.cell? ⟨w.heap.size + 1, 0, none⟩ = some (.int .i64 0)
  e1 : W.cell? ⟨w.heap.size + 1, 1, none⟩ = some (.int .i64 0)
  e2 : W.cell? ⟨w.heap.size + 1, 2, none⟩ = some (.int .i64 0)
  f : ∀ i, W.frozen? ⟨w.heap.size + 1, i, none⟩ = false
theorem NW.then {w W W' : World} {vw vm va vb vc : Value} (h : NW w W vw vm va vb vc) (hb : Below (w.heap.size + 2) W W') : NW w W' vw vm va vb vc := by
  have c : ∀ (p : Addr) (v : Value), p.block < w.heap.size + 2 → W.cell? p = some v → W'.cell? p = some v := fun p v hp hc => (hb.cell hp).trans hc
  exact ⟨h.below.trans (hb.mono (Nat.le_add_right _ _)), Nat.le_trans h.sz hb.size, c _ _ (by show w.heap.size < _; omega) h.d0, c _ _ (by show w.heap.size < _; omega) h.d1, c _ _ (by show w.heap.size < _; omega) h.d2, c _ _ (by show w.heap.size < _; omega) h.d3, c _ _ (by show w.heap.size < _; omega) h.d4,
    c _ _ (by show w.heap.size + 1 < _; omega) h.e0, c _ _ (by show w.heap.size + 1 < _; omega) h.e1, c _ _ (by show w.heap.size + 1 < _; omega) h.e2, fun i => (hb.frozen (p := ⟨w.heap.size + 1, i, none⟩) (by show w.heap.size + 1 < _; omega)).trans (h.f i)⟩
theorem NW.start (w : World) (vw vm va vb vc : Value) (t t' : TypeId) : NW w ((w.alloc (Obj.cells #[vw, vm, va, vb, vc] t)).alloc (Obj.cells #[.int .i64 0, .int .i64 0, .int .i64 0] t')) vw vm va vb vc :=
  ⟨by (repeat (first | with_reducible exact Below.refl _ _ | assumption | refine Below.drew ?_ | refine below_drewN ?_ _ | refine Below.alloc ?_ (by first | omega | (simp; done) | (simp; omega)) _ | refine Below.setCell ?_ (by first | omega | (simp; done) | (simp; omega)) _)), by simp, by go_simp, by go_simp, by go_simp, by go_simp, by go_simp, by go_simp, by go_simp, by go_simp, fun i => by go_simp⟩
set_option maxHeartbeats 16000000 in
set_option maxRecDepth 100000 in
theorem model_New (w : World) (vw vm va vb vc : Value) (d : Dat) (hD : DataIn w vw vm va vb vc d) :
    Calls Tryd.prog 56 #[.agg #[vw, vm, va, vb, vc]] w (MadeSaid w d) := by
  obtain ⟨A, c, rfl⟩ := hD.words.form
  obtain ⟨A', c', rfl⟩ := hD.merges.form
  have hlw := hD.words.1
  have hlm := hD.merges.1
  have HD := Lib.hid hD
  clear hD
  have h5 := NW.start w (.slice A d.words.length c) (.slice A' d.merges.length c') va vb vc 26 103
  have H5 := Lib.hid h5
  clear h5
  by_cases h1 : 4096 < d.merges.length
  · go_enter Tryd.func56, Tryd.ntmps56
    go_wp2
    refine bodyPost_ret (v := .tuple #[.pointer none, .agg #[.int .i64 4, .int .i64 5, .int .i64 4096]]) (by simp [results, Tryd.results56, go_sem]) rfl ⟨by (repeat (first | with_reducible exact Below.refl _ _ | assumption | refine Below.drew ?_ | refine below_drewN ?_ _ | refine Below.alloc ?_ (by first | omega | (simp; done) | (simp; omega)) _ | refine Below.setCell ?_ (by first | omega | (simp; done) | (simp; omega)) _)), .inr ⟨4, 5, 4096, check5_many h1, by omega, rfl⟩⟩
  have h1' : d.merges.length ≤ 4096 := by omega
  by_cases h2 : d.words.length = d.merges.length
  case neg =>
    have h3 := check5_len h1' h2
    have H3 := Lib.hid h3
    clear h3
    have hne : ((d.words.length : Int) != (d.merges.length : Int)) = true := by simp; omega
    rcases (by omega : d.words.length < d.merges.length ∨ d.merges.length < d.words.length) with h4 | h4
    · have hm : min d.words.length d.merges.length = d.words.length := Nat.min_eq_left (by omega)
      have hm' : min (d.words.length : Int) (d.merges.length : Int) = d.words.length := by omega
      go_enter Tryd.func56, Tryd.ntmps56
      go_wp2_with fail
      go_region
      all_goals go_wp2
      all_goals refine bodyPost_ret (v := .tuple #[.pointer none, .agg #[.int .i64 4, .int .i64 4, .int .i64 (d.words.length : Nat)]]) (by simp [results, Tryd.results56, go_sem, hm']) rfl ⟨by (repeat (first | with_reducible exact Below.refl _ _ | assumption | refine Below.drew ?_ | refine below_drewN ?_ _ | refine Below.alloc ?_ (by first | omega | (simp; done) | (simp; omega)) _ | refine Below.setCell ?_ (by first | omega | (simp; done) | (simp; omega)) _)), .inr ⟨4, 4, d.words.length, by rw [H3.out, hm], by omega, rfl⟩⟩
    · have hm : min d.words.length d.merges.length = d.merges.length := Nat.min_eq_right (by omega)
      have hm' : min (d.words.length : Int) (d.merges.length : Int) = d.merges.length := by omega
      go_enter Tryd.func56, Tryd.ntmps56
      go_wp2_with fail
      go_region
      all_goals go_wp2
      all_goals refine bodyPost_ret (v := .tuple #[.pointer none, .agg #[.int .i64 4, .int .i64 4, .int .i64 (d.merges.length : Nat)]]) (by simp [results, Tryd.results56, go_sem, hm']) rfl ⟨by (repeat (first | with_reducible exact Below.refl _ _ | assumption | refine Below.drew ?_ | refine below_drewN ?_ _ | refine Below.alloc ?_ (by first | omega | (simp; done) | (simp; omega)) _ | refine Below.setCell ?_ (by first | omega | (simp; done) | (simp; omega)) _)), .inr ⟨4, 4, d.merges.length, by rw [H3.out, hm], by omega, rfl⟩⟩
  have hne : ((d.words.length : Int) != (d.merges.length : Int)) = false := by simp; omega
  have H2 := Lib.hid h2
  clear h2
  go_enter Tryd.func56, Tryd.ntmps56
  go_wp2_with fail
  generalize (w.alloc (Obj.cells #[.slice A d.words.length c, .slice A' d.merges.length c', va, vb, vc] 26)).alloc (Obj.cells #[.int .i64 0, .int .i64 0, .int .i64 0] 103) = W0 at H5 ⊢
  obtain ⟨_, g0, g1, g2, g3, g4, g5, g6, g7, g8, gf⟩ := H5.out
  have G0 := Lib.hid H5.out.below
  refine (classes_New W0 va vb vc d (HD.out.letters.below G0.out) (HD.out.numbers.below G0.out) (HD.out.spaces.below G0.out)).mono ?_
  rintro e W1 ⟨hb1, ⟨t, hck, rfl, htl, htab, hrd⟩ | ⟨p, q, r, hck, hp0, rfl⟩⟩
  case inr =>
    have h5 := H5.out.then (hb1.mono g0)
    have H5' := Lib.hid h5
    have HC := Lib.hid (check5_4 h1' H2.out hck hp0)
    clear h5 H5 G0 g0 g1 g2 g3 g4 g5 g6 g7 g8 gf hb1 hck
    obtain ⟨_, g0, g1, g2, g3, g4, g5, g6, g7, g8, gf⟩ := H5'.out
    have G0 := Lib.hid H5'.out.below
    have hsz : w.heap.size + 1 < W1.heap.size := by omega
    go_wp2_with fail
    go_region
    all_goals go_wp2
    all_goals refine bodyPost_ret (v := .tuple #[.pointer none, .agg #[.int .i64 (p : Nat), .int .i64 (q : Nat), .int .i64 (r : Nat)]]) (by simp [results, Tryd.results56, go_sem, g6, g7, g8, hsz]) rfl ⟨by have hg := G0.out; (repeat (first | with_reducible exact Below.refl _ _ | assumption | refine Below.drew ?_ | refine below_drewN ?_ _ | refine Below.alloc ?_ (by first | omega | (simp; done) | (simp; omega)) _ | refine Below.setCell ?_ (by first | omega | (simp; done) | (simp; omega)) _)), .inr ⟨p, q, r, HC.out, hp0, rfl⟩⟩
  have hba : Below W1.heap.size W1 (W1.alloc (Obj.cells #[.int .i64 0, .int .i64 0, .int .i64 0] 154)) := by (repeat (first | with_reducible exact Below.refl _ _ | assumption | refine Below.drew ?_ | refine below_drewN ?_ _ | refine Below.alloc ?_ (by first | omega | (simp; done) | (simp; omega)) _ | refine Below.setCell ?_ (by first | omega | (simp; done) | (simp; omega)) _))
  have hbb := hb1.trans (hba.mono hb1.size)
  have h5 := H5.out.then (hbb.mono g0)
  have hd1 := HD.out.below (G0.out.trans (hbb.mono G0.out.size))
  have H5' := Lib.hid h5
  have HT := Lib.hid (htab.below hba)
  have HRD := Lib.hid hrd
  have HC4 := Lib.hid hck
  have HD1 := Lib.hid hd1
  have htl' : t < (W1.alloc (Obj.cells #[.int .i64 0, .int .i64 0, .int .i64 0] 154)).heap.size := by
    obtain ⟨v1, v2, v3, h, _⟩ := HT.out
    exact World.block_lt_of_cell? _ _ h
  have HTL := Lib.hid htl'
  clear h5 hd1 H5 G0 g0 g1 g2 g3 g4 g5 g6 g7 g8 gf hb1 hck hba hbb htab hrd htl htl'
  obtain ⟨_, g0, g1, g2, g3, g4, g5, g6, g7, g8, gf⟩ := H5'.out
  have H5 := H5'
  clear H5' HD
  go_wp2_with fail
  generalize W1.alloc (Obj.cells #[.int .i64 0, .int .i64 0, .int .i64 0] 154) = W2 at H5 HT HD1 HTL g0 g1 g2 g3 g4 g5 g6 g7 g8 gf ⊢
  refine (model_copied W2 _ _ va vb vc d HD1.out (by omega)).mono ?_
  rintro e W3 ⟨uw, um, ua, ub, uc, rfl, hd3, hb3⟩
  obtain ⟨wA, wc, rfl⟩ := hd3.words.form
  obtain ⟨mA, mc, rfl⟩ := hd3.merges.form
  obtain ⟨aA, ac, rfl⟩ := hd3.letters.form
  obtain ⟨bA, bc, rfl⟩ := hd3.numbers.form
  obtain ⟨cA, cc, rfl⟩ := hd3.spaces.form
  have ht3 := HT.out.below hb3
  have h5 := H5.out.then (hb3.mono g0)
  have HT' := Lib.hid ht3
  have H5' := Lib.hid h5
  have HD3 := Lib.hid hd3
  clear ht3 h5 hd3 HT H5 HD1 HTL hb3
  have H5 := H5'
  have HT := HT'
  clear H5' HT' g0 g1 g2 g3 g4 g5 g6 g7 g8 gf
  have hmm := @run_makeMap Tryd.prog
  have hut := Tryd.underlying115
  go_wp2_with fail
  obtain ⟨W4, hW4⟩ : ∃ W, (W3.alloc (Obj.map #[] 0)).alloc (Obj.cells #[.slice wA d.words.length wc, .slice mA d.merges.length mc, .slice aA d.letters.length ac, .slice bA d.numbers.length bc, .slice cA d.spaces.length cc, .pointer (some ⟨t, 0, none⟩), .map (some W3.heap.size), .int .i64 1] 117) = W := ⟨_, rfl⟩
  have hb4 : Below W3.heap.size W3 W4 := by rw [← hW4]; (repeat (first | with_reducible exact Below.refl _ _ | assumption | refine Below.drew ?_ | refine below_drewN ?_ _ | refine Below.alloc ?_ (by first | omega | (simp; done) | (simp; omega)) _ | refine Below.setCell ?_ (by first | omega | (simp; done) | (simp; omega)) _))
  have hz4 : W4.heap.size = W3.heap.size + 2 := by rw [← hW4]; simp
  have hg4 : W4.heap[W3.heap.size + 1]? = some (.cells #[.slice wA d.words.length wc, .slice mA d.merges.length mc, .slice aA d.letters.length ac, .slice bA d.numbers.length bc, .slice cA d.spaces.length cc, .pointer (some ⟨t, 0, none⟩), .map (some W3.heap.size), .int .i64 1] 117 (0, 0)) := by
    rw [← hW4]
    have := blk_new (W3.alloc (Obj.map #[] 0)) (Obj.cells #[.slice wA d.words.length wc, .slice mA d.merges.length mc, .slice aA d.letters.length ac, .slice bA d.numbers.length bc, .slice cA d.spaces.length cc, .pointer (some ⟨t, 0, none⟩), .map (some W3.heap.size), .int .i64 1] 117)
    simpa using this
  have hr4 : W4.heap[W3.heap.size]? = some (.map #[] 0) := by
    rw [← hW4]
    exact blk_old (blk_new W3 _) _
  rw [hW4]
  clear hW4 hmm hut
  have hz3 : w.heap.size + 2 ≤ W3.heap.size := H5.out.sz
  have HSz := Lib.hid hz3
  have h5 := H5.out.then (hb4.mono hz3)
  have H5' := Lib.hid h5
  have HG4 := Lib.hid hg4
  have HR4 := Lib.hid hr4
  have HB4 := Lib.hid hb4
  have HZ4 := Lib.hid hz4
  clear h5 H5 hg4 hr4 hb4
  have H5 := H5'
  clear H5'
  refine (model_words W4 (W3.heap.size + 1) t W3.heap.size _ _ _ _ _ d.words HG4.out (HD3.out.words.below HB4.out) fun b hb hl => ?_).mono ?_
  · have := own_str HD3.out.words b hb hl
    omega
  rintro e W5 ⟨rfl, hu5, n5, hg5, hn5⟩
  have hb5 : Below W3.heap.size W4 W5 := hu5.below_of (by omega) fun k hk => by omega
  have h5 := H5.out.then (hb5.mono hz3)
  have H5' := Lib.hid h5
  have hr5 := hu5.blk HR4.out (by omega)
  have HR5 := Lib.hid hr5
  have HG5 := Lib.hid hg5
  have HN5 := Lib.hid hn5
  have hb35 := HB4.out.trans hb5
  have HB5 := Lib.hid hb35
  have hz5 : W3.heap.size + 2 ≤ W5.heap.size := by have := hu5.size; omega
  clear h5 H5 hr5 hg5 hn5 hb35 hu5 hb5 HR4 HG4 HB4 HZ4 hz4 hz3
  have H5 := H5'
  clear H5'
  obtain ⟨_, g0, g1, g2, g3, g4, g5, g6, g7, g8, gf⟩ := H5.out
  have G0 := Lib.hid H5.out.below
  by_cases q1 : (wordsL d.words).1 = 0
  case neg =>
    have hc5 := check5_w h1' H2.out HC4.out q1
    have hl := wordsL_list q1
    obtain ⟨p, q, r, hck⟩ : ∃ p q r, wordsL d.words = (p, q, r) := ⟨_, _, _, rfl⟩
    rw [hck] at hc5 hl q1 ⊢
    simp only at hl q1
    subst hl
    have hne : ((p : Int) != 0) = true := by simp; omega
    have HC := Lib.hid hc5
    clear hc5 hck
    have hsz : w.heap.size + 1 < W5.heap.size := by omega
    go_wp2
    refine bodyPost_ret (v := .tuple #[.pointer none, .agg #[.int .i64 (p : Nat), .int .i64 4, .int .i64 (r : Nat)]]) (by simp [results, Tryd.results56, go_sem, g6, g7, g8, hsz]) rfl ⟨by have hg := G0.out; (repeat (first | with_reducible exact Below.refl _ _ | assumption | refine Below.drew ?_ | refine below_drewN ?_ _ | refine Below.alloc ?_ (by first | omega | (simp; done) | (simp; omega)) _ | refine Below.setCell ?_ (by first | omega | (simp; done) | (simp; omega)) _)), .inr ⟨p, 4, r, HC.out, q1, rfl⟩⟩
  have hwn := wordsL_none q1
  rw [hwn]
  clear hwn
  go_wp2_with fail
  refine (model_pairs W5 (W3.heap.size + 1) t W3.heap.size _ _ _ _ _ d.words d.merges n5 HG5.out HR5.out (HD3.out.words.below HB5.out) (HD3.out.merges.below HB5.out) (by have := H2.out; omega) h1' (fun b hb hl => ?_) (fun b hb hl => ?_)).mono ?_
  · have := own_str HD3.out.words b hb hl
    have hz := HSz.out
    omega
  · have := own_mrg HD3.out.merges b hb hl
    have hz := HSz.out
    omega
  rintro e W6 ⟨rfl, hu6, hm6⟩
  have hb6 : Below W3.heap.size W5 W6 := hu6.below_of (by omega) fun k hk => by omega
  have h5 := H5.out.then (hb6.mono HSz.out)
  have H5' := Lib.hid h5
  have hg6 := hu6.blk HG5.out (by omega)
  have HG6 := Lib.hid hg6
  have HM6 := Lib.hid hm6
  have HB6 := Lib.hid (HB5.out.trans hb6)
  have hz6 : W3.heap.size + 2 ≤ W6.heap.size := by have := hu6.size; omega
  clear h5 H5 G0 g0 g1 g2 g3 g4 g5 g6 g7 g8 gf hg6 hm6 hu6 hb6 HB5 HG5 HR5 hz5
  have H5 := H5'
  clear H5'
  have hz3 := HSz.out
  have hsz : w.heap.size + 1 < W6.heap.size := by omega
  obtain ⟨_, g0, g1, g2, g3, g4, g5, g6, g7, g8, gf⟩ := H5.out
  have G0 := Lib.hid H5.out.below
  by_cases q2 : (mergesL d.words d.merges).1 = 0
  case neg =>
    have hc5 := check5_m h1' H2.out HC4.out q1
    have hl := mergesL_list q2
    obtain ⟨p, q, r, hck⟩ : ∃ p q r, mergesL d.words d.merges = (p, q, r) := ⟨_, _, _, rfl⟩
    rw [hck] at hc5 hl q2 ⊢
    simp only at hl q2
    subst hl
    have hne : ((p : Int) != 0) = true := by simp; omega
    have HC := Lib.hid hc5
    clear hc5 hck
    go_wp2
    refine bodyPost_ret (v := .tuple #[.pointer none, .agg #[.int .i64 (p : Nat), .int .i64 5, .int .i64 (r : Nat)]]) (by simp [results, Tryd.results56, go_sem, g6, g7, g8, hsz]) rfl ⟨by have hg := G0.out; (repeat (first | with_reducible exact Below.refl _ _ | assumption | refine Below.drew ?_ | refine below_drewN ?_ _ | refine Below.alloc ?_ (by first | omega | (simp; done) | (simp; omega)) _ | refine Below.setCell ?_ (by first | omega | (simp; done) | (simp; omega)) _)), .inr ⟨p, 5, r, HC.out, q2, rfl⟩⟩
  have hmn := mergesL_none q2
  have hc5 := (check5_m h1' H2.out HC4.out q1).trans hmn
  have HC := Lib.hid hc5
  rw [hmn]
  have hmod : IsModel W6 (W3.heap.size + 1) d := by
    refine ⟨HC.out, _, _, _, _, _, t, W3.heap.size, ?_, HM6.out q2, HD3.out.below HB6.out, HT.out.below HB6.out, HRD.out⟩
    rw [← HN5.out q1]
    exact HG6.out
  have HMOD := Lib.hid hmod
  clear hmn hc5 hmod
  go_wp2
  refine bodyPost_ret (v := .tuple #[.pointer (some ⟨W3.heap.size + 1, 0, none⟩), .agg #[.int .i64 0, .int .i64 0, .int .i64 0]]) (by simp [results, Tryd.results56, go_sem, g6, g7, g8, hsz]) rfl ⟨by have hg := G0.out; (repeat (first | with_reducible exact Below.refl _ _ | assumption | refine Below.drew ?_ | refine below_drewN ?_ _ | refine Below.alloc ?_ (by first | omega | (simp; done) | (simp; omega)) _ | refine Below.setCell ?_ (by first | omega | (simp; done) | (simp; omega)) _)), .inl ⟨_, HC.out, rfl, ?_⟩⟩
  rw [setCell_id g6, setCell_id g7, setCell_id g8]
  exact HMOD.out
end Go.Proofs.YtpfnmcgcpgcfjaaDoor
