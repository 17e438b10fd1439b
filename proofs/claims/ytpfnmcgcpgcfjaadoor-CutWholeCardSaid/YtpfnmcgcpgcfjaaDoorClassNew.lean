/- Contract of classes.New. -/
import Derived.Test.YtpfnmcgcpgcfjaaDoorClone
import Derived.Test.YtpfnmcgcpgcfjaaDoorTable
import Derived.Test.YtpfnmcgcpgcfjaaDoorPureCheck
import Derived.Test.YtpfnmcgcpgcfjaaDoorRef4
namespace Tess
theorem not_both {a c : Sp} {r : Int} (h : meetL c a = none) (h1 : inL a r = true) : inL c r = false := by
  rw [Bool.eq_false_iff]
  intro h2
  obtain ⟨⟨i, hi, x1, x2⟩, _⟩ := (inL_iff a r).1 h1
  obtain ⟨⟨j, hj, y1, y2⟩, _⟩ := (inL_iff c r).1 h2
  have := firstOf_inv_none h j hj
  rw [(meetAt_iff c a j).2 ⟨i, hi, by omega, by omega⟩] at this
  cases this
theorem minO_none {a b : Option Nat} (h : minO a b = none) : a = none ∧ b = none := by cases a <;> cases b <;> simp [minO] at h ⊢
theorem blankBad_kind (d : Dat) (h1 : meetL d.spaces d.letters = none) (h2 : meetL d.spaces d.numbers = none) :
    blankBad d.letters d.numbers d.spaces = (decide (kindOf d 32 ≠ 3) || decide (kindOf d 39 ≠ 4)) := by
  unfold blankBad kindOf
  cases e1 : inL d.letters 32
  · cases e2 : inL d.numbers 32
    · cases inL d.spaces 32 <;> cases inL d.letters 39 <;> cases inL d.numbers 39 <;> cases inL d.spaces 39 <;> rfl
    · rw [not_both h2 e2]
      cases inL d.letters 39 <;> cases inL d.numbers 39 <;> cases inL d.spaces 39 <;> rfl
  · rw [not_both h1 e1]
    cases inL d.letters 39 <;> cases inL d.numbers 39 <;> cases inL d.spaces 39 <;> rfl
end Tess
namespace Go.Proofs.YtpfnmcgcpgcfjaaDoor
open Go.RowKit Tess
/-- What New's walk knows of a later world: the result's cell, the table. -/
structure C6 (w W : World) (t : Nat) (v1 v2 v3 : Value) : Prop where
  below : Below w.heap.size w W
  size : w.heap.size + 1 ≤ W.heap.size
  tlt : t < W.heap.size
  tge : w.heap.size < t
  r0 : W.cell? ⟨w.heap.size, 0, none⟩ = some (.int .i64 0)
  r1 : W.cell? ⟨w.heap.size, 1, none⟩ = some (.int .i64 0)
  r2 : W.cell? ⟨w.heap.size, 2, none⟩ = some (.int .i64 0)
  f0 : W.frozen? ⟨w.heap.size, 0, none⟩ = false
  f1 : W.frozen? ⟨w.heap.size, 1, none⟩ = false
  f2 : W.frozen? ⟨w.heap.size, 2, none⟩ = false
  l0 : W.cell? ⟨t, 0, none⟩ = some v1
  l1 : W.cell? ⟨t, 1, none⟩ = some v2
  l2 : W.cell? ⟨t, 2, none⟩ = some v3
theorem C6.then {w W W' : World} {t : Nat} {v1 v2 v3 : Value} (h : C6 w W t v1 v2 v3) (hb : Below W.heap.size W W') : C6 w W' t v1 v2 v3 := by
  have hs := hb.size
  have hz := h.size
  have ht := h.tlt
  have fr : ∀ i, W'.frozen? ⟨w.heap.size, i, none⟩ = W.frozen? ⟨w.heap.size, i, none⟩ := fun i => hb.frozen (p := ⟨w.heap.size, i, none⟩) (by show w.heap.size < _; omega)
  exact ⟨below_then h.below (by omega) hb, by omega, by omega, h.tge, cell_below hb h.r0, cell_below hb h.r1, cell_below hb h.r2, (fr 0).trans h.f0, (fr 1).trans h.f1, (fr 2).trans h.f2, cell_below hb h.l0, cell_below hb h.l1, cell_below hb h.l2⟩
/-- New's answer. -/
def NewSaid (w : World) (d : Dat) (e : Ending) (w' : World) : Prop :=
  Below w.heap.size w w' ∧ ((∃ t, check4 d.letters d.numbers d.spaces = (0, 0, 0) ∧ e = .returned (.tuple #[.pointer (some ⟨t, 0, none⟩), .agg #[.int .i64 0, .int .i64 0, .int .i64 0]]) ∧ w.heap.size ≤ t ∧ IsTable w' t d ∧ RightD d) ∨
    (∃ p q r : Nat, check4 d.letters d.numbers d.spaces = (p, q, r) ∧ p ≠ 0 ∧ e = .returned (.tuple #[.pointer none, .agg #[.int .i64 (p : Nat), .int .i64 (q : Nat), .int .i64 (r : Nat)]])))
set_option maxHeartbeats 16000000 in
set_option maxRecDepth 100000 in
theorem classes_New (w : World) (v1 v2 v3 : Value) (d : Dat) (hA : SpansIn w v1 d.letters) (hB : SpansIn w v2 d.numbers) (hC : SpansIn w v3 d.spaces) :
   Calls Tryd.prog 82 #[v1, v2, v3] w (NewSaid w d) := by
  have HA := Lib.hid hA
  have HB := Lib.hid hB
  have HC := Lib.hid hC
  clear hA hB hC
  obtain ⟨p, q, r, hck⟩ : ∃ p q r, check4 d.letters d.numbers d.spaces = (p, q, r) := ⟨_, _, _, rfl⟩
  have HCK := Lib.hid hck
  clear hck
  go_enter Tryd.func82, Tryd.ntmps82
  go_wp2_with fail
  have hb0 : Below w.heap.size w (w.alloc (Obj.cells #[.int .i64 0, .int .i64 0, .int .i64 0] 154)) := by (repeat (first | with_reducible exact Below.refl _ _ | assumption | refine Below.drew ?_ | refine below_drewN ?_ _ | refine Below.alloc ?_ (by first | omega | (simp; done) | (simp; omega)) _ | refine Below.setCell ?_ (by first | omega | (simp; done) | (simp; omega)) _))
  refine (clone_spans _ v1 d.letters (HA.out.below hb0)).mono ?_
  rintro e w1 ⟨u1, rfl, s1, f1, b1⟩
  have F1 := Lib.hid (f1.mono (B' := w.heap.size + 1) (by simp))
  have hb1 := below_then hb0 (by simp) b1
  have HB1 := Lib.hid hb1
  have x0 : w1.cell? ⟨w.heap.size, 0, none⟩ = some (.int .i64 0) := cell_below b1 (by go_simp)
  have x1 : w1.cell? ⟨w.heap.size, 1, none⟩ = some (.int .i64 0) := cell_below b1 (by go_simp)
  have x2 : w1.cell? ⟨w.heap.size, 2, none⟩ = some (.int .i64 0) := cell_below b1 (by go_simp)
  have xf : ∀ i, w1.frozen? ⟨w.heap.size, i, none⟩ = false := fun i => (b1.frozen (p := ⟨w.heap.size, i, none⟩) (by show w.heap.size < _; simp)).trans (by go_simp)
  have z1 := b1.size
  simp at z1
  have X0 := Lib.hid x0
  have X1 := Lib.hid x1
  have X2 := Lib.hid x2
  have XF := Lib.hid xf
  obtain ⟨A1, c1, rfl⟩ := s1.form
  have S1 := Lib.hid s1
  clear x0 x1 x2 xf hb0 b1 hb1 s1 f1
  go_wp2_with fail
  refine (clone_spans _ v2 d.numbers (HB.out.below HB1.out)).mono ?_
  rintro e w2 ⟨u2, rfl, s2, f2, b2⟩
  have F2 := Lib.hid (f2.mono (B' := w.heap.size + 1) (by omega))
  obtain ⟨A2, c2, rfl⟩ := s2.form
  have S2 := Lib.hid s2
  have B2 := Lib.hid b2
  have HB2 := Lib.hid (below_then HB1.out (by omega) b2)
  clear s2 b2 f2
  go_wp2_with fail
  refine (clone_spans _ v3 d.spaces (HC.out.below HB2.out)).mono ?_
  rintro e w3 ⟨u3, rfl, s3, f3, b3⟩
  have F3 := Lib.hid (f3.mono (B' := w.heap.size + 1) (by have := B2.out.size; omega))
  obtain ⟨A3, c3, rfl⟩ := s3.form
  have z2 := B2.out.size
  have z3 := b3.size
  have b13 := B2.out.trans (b3.mono z2)
  have hT : ∀ t, w3.heap.size = t → C6 w (w3.alloc (Obj.cells #[.slice A1 d.letters.length c1, .slice A2 d.numbers.length c2, .slice A3 d.spaces.length c3] 169)) t (.slice A1 d.letters.length c1) (.slice A2 d.numbers.length c2) (.slice A3 d.spaces.length c3) := by
    rintro t rfl
    have ba : Below w3.heap.size w3 (w3.alloc (Obj.cells #[.slice A1 d.letters.length c1, .slice A2 d.numbers.length c2, .slice A3 d.spaces.length c3] 169)) := by (repeat (first | with_reducible exact Below.refl _ _ | assumption | refine Below.drew ?_ | refine below_drewN ?_ _ | refine Below.alloc ?_ (by first | omega | (simp; done) | (simp; omega)) _ | refine Below.setCell ?_ (by first | omega | (simp; done) | (simp; omega)) _))
    have bb := b13.trans (ba.mono b13.size)
    exact ⟨below_then HB1.out (by omega) bb, by simp; omega, by simp, by omega, cell_below bb X0.out, cell_below bb X1.out, cell_below bb X2.out, (bb.frozen (p := ⟨w.heap.size, 0, none⟩) (by show w.heap.size < _; omega)).trans (XF.out 0), (bb.frozen (p := ⟨w.heap.size, 1, none⟩) (by show w.heap.size < _; omega)).trans (XF.out 1), (bb.frozen (p := ⟨w.heap.size, 2, none⟩) (by show w.heap.size < _; omega)).trans (XF.out 2), by go_simp, by go_simp, by go_simp⟩
  have hS : ∀ W, Below w3.heap.size w3 W → SpansIn W (.slice A1 d.letters.length c1) d.letters ∧ SpansIn W (.slice A2 d.numbers.length c2) d.numbers ∧ SpansIn W (.slice A3 d.spaces.length c3) d.spaces := fun W h =>
    ⟨(S1.out.below b13).below h, (S2.out.below b3).below h, s3.below h⟩
  have hS0 := hS _ (by (repeat (first | with_reducible exact Below.refl _ _ | assumption | refine Below.drew ?_ | refine below_drewN ?_ _ | refine Below.alloc ?_ (by first | omega | (simp; done) | (simp; omega)) _ | refine Below.setCell ?_ (by first | omega | (simp; done) | (simp; omega)) _)) : Below w3.heap.size w3 (w3.alloc (Obj.cells #[.slice A1 d.letters.length c1, .slice A2 d.numbers.length c2, .slice A3 d.spaces.length c3] 169)))
  obtain ⟨t, ht⟩ : ∃ t, w3.heap.size = t := ⟨_, rfl⟩
  have h0 := hT t ht
  have HT := Lib.hid ht
  have i0 : ∀ w, (Instr.index 167 (.agg #[.slice A1 d.letters.length c1, .slice A2 d.numbers.length c2, .slice A3 d.spaces.length c3]) (.int .i64 0)).run Tryd.prog w = .ok (.slice A1 d.letters.length c1) w := fun _ => by kernel_rfl
  have i1 : ∀ w, (Instr.index 167 (.agg #[.slice A1 d.letters.length c1, .slice A2 d.numbers.length c2, .slice A3 d.spaces.length c3]) (.int .i64 1)).run Tryd.prog w = .ok (.slice A2 d.numbers.length c2) w := fun _ => by kernel_rfl
  have i2 : ∀ w, (Instr.index 167 (.agg #[.slice A1 d.letters.length c1, .slice A2 d.numbers.length c2, .slice A3 d.spaces.length c3]) (.int .i64 2)).run Tryd.prog w = .ok (.slice A3 d.spaces.length c3) w := fun _ => by kernel_rfl
  have len1 := s3.1
  have len2 := S1.out.1
  have len3 := S2.out.1
  clear f3 s3 b3 z1 z2 z3 hT hS b13 ht
  have HS0 := Lib.hid hS0
  have H4 := Lib.hid h0
  clear hS0 h0
  go_wp2_with fail
  rw [HT.out]
  have h4 := H4.out
  have hs := HS0.out
  clear H4 HS0
  generalize w3.alloc (Obj.cells #[.slice A1 d.letters.length c1, .slice A2 d.numbers.length c2, .slice A3 d.spaces.length c3] 169) = W0 at h4 hs ⊢
  have H4 := Lib.hid h4
  have HS := Lib.hid hs
  clear hs HT HB1 B2 HB2 X0 X1 X2 XF S1 S2
  obtain ⟨_, g1, g1', g1'', g2, g3, g4, g5, g6, g7, g8, g9, g10⟩ := h4
  have G0 := Lib.hid H4.out.below
  go_loop [36] (fun s => ∃ i : Nat, i ≤ 3 ∧ s = .int .i64 i ∧ ((0 < i → d.letters.length ≤ 512) ∧ (1 < i → d.numbers.length ≤ 512) ∧ (2 < i → d.spaces.length ≤ 512))) (fun s => 3 - (intOf s).toNat)
  case atStart => exact ⟨0, by omega, rfl, by omega, by omega, by omega⟩
  case round =>
    obtain ⟨i, hi, rfl, hj⟩ := hrel
    have HJ := Lib.hid hj
    clear hj
    rcases (by omega : i = 0 ∨ i = 1 ∨ i = 2 ∨ i = 3) with rfl | rfl | rfl | rfl
    · by_cases hl : 512 < d.letters.length
      · have e := HCK.out.symm.trans (check4_len _ _ _ 1 (.inl ⟨rfl, hl⟩))
        simp only [Prod.mk.injEq] at e
        obtain ⟨rfl, rfl, rfl⟩ := e
        go_wp2
        refine bodyPost_ret (v := .tuple #[.pointer none, .agg #[.int .i64 4, .int .i64 1, .int .i64 512]]) (by simp [results, Tryd.results82, go_sem, g2, g3, g4]) rfl ⟨by have hg := G0.out; (repeat (first | with_reducible exact Below.refl _ _ | assumption | refine Below.drew ?_ | refine below_drewN ?_ _ | refine Below.alloc ?_ (by first | omega | (simp; done) | (simp; omega)) _ | refine Below.setCell ?_ (by first | omega | (simp; done) | (simp; omega)) _)), .inr ⟨4, 1, 512, HCK.out, by omega, rfl⟩⟩
      · go_wp2
        go_round
        case rel => exact ⟨1, by omega, by go_num, fun _ => by omega, by omega, by omega⟩
        case measure => simp [intOf]
    · by_cases hl : 512 < d.numbers.length
      · have e := HCK.out.symm.trans (check4_len _ _ _ 2 (.inr (.inl ⟨rfl, HJ.out.1 (by omega), hl⟩)))
        simp only [Prod.mk.injEq] at e
        obtain ⟨rfl, rfl, rfl⟩ := e
        go_wp2
        refine bodyPost_ret (v := .tuple #[.pointer none, .agg #[.int .i64 4, .int .i64 2, .int .i64 512]]) (by simp [results, Tryd.results82, go_sem, g2, g3, g4]) rfl ⟨by have hg := G0.out; (repeat (first | with_reducible exact Below.refl _ _ | assumption | refine Below.drew ?_ | refine below_drewN ?_ _ | refine Below.alloc ?_ (by first | omega | (simp; done) | (simp; omega)) _ | refine Below.setCell ?_ (by first | omega | (simp; done) | (simp; omega)) _)), .inr ⟨4, 2, 512, HCK.out, by omega, rfl⟩⟩
      · go_wp2
        go_round
        case rel => exact ⟨2, by omega, by go_num, fun _ => HJ.out.1 (by omega), fun _ => by omega, by omega⟩
        case measure => simp [intOf]
    · by_cases hl : 512 < d.spaces.length
      · have e := HCK.out.symm.trans (check4_len _ _ _ 3 (.inr (.inr ⟨rfl, HJ.out.1 (by omega), HJ.out.2.1 (by omega), hl⟩)))
        simp only [Prod.mk.injEq] at e
        obtain ⟨rfl, rfl, rfl⟩ := e
        go_wp2
        refine bodyPost_ret (v := .tuple #[.pointer none, .agg #[.int .i64 4, .int .i64 3, .int .i64 512]]) (by simp [results, Tryd.results82, go_sem, g2, g3, g4]) rfl ⟨by have hg := G0.out; (repeat (first | with_reducible exact Below.refl _ _ | assumption | refine Below.drew ?_ | refine below_drewN ?_ _ | refine Below.alloc ?_ (by first | omega | (simp; done) | (simp; omega)) _ | refine Below.setCell ?_ (by first | omega | (simp; done) | (simp; omega)) _)), .inr ⟨4, 3, 512, HCK.out, by omega, rfl⟩⟩
      · go_wp2
        go_round
        case rel => exact ⟨3, by omega, by go_num, fun _ => HJ.out.1 (by omega), fun _ => HJ.out.2.1 (by omega), fun _ => by omega⟩
        case measure => simp [intOf]
    · have q1 := HJ.out.1 (by omega)
      have q2 := HJ.out.2.1 (by omega)
      have q3 := HJ.out.2.2 (by omega)
      have hck := HCK.out
      unfold check4 at hck
      rw [if_neg (by omega), if_neg (by omega), if_neg (by omega)] at hck
      have HK2 := Lib.hid hck
      clear hck HJ
      go_wp2
      clear g2 g3 g4 g5 g6 g7 g8 g9 g10 g1 g1' g1'' G0
      go_loopw [51] (fun s W => ∃ i : Nat, i ≤ 3 ∧ s = .int .i64 i ∧ ((0 < i → (rightL d.letters).2 = 0) ∧ (1 < i → (rightL d.numbers).2 = 0) ∧ (2 < i → (rightL d.spaces).2 = 0)) ∧ Below W0.heap.size W0 W) (fun s _ => 3 - (intOf s).toNat)
      case atStart => exact ⟨0, by omega, rfl, ⟨by omega, by omega, by omega⟩, Below.refl _ _⟩
      case round =>
        obtain ⟨i, hi, rfl, hj, hw0⟩ := hrel
        have HJ := Lib.hid hj
        have HW := Lib.hid hw0
        have h5 := H4.out.then hw0
        have H5 := Lib.hid h5
        clear hj hw0
        obtain ⟨_, g1, g1', g1'', _, _, _, _, _, _, g8, g9, g10⟩ := h5
        rcases (by omega : i = 0 ∨ i = 1 ∨ i = 2 ∨ i = 3) with rfl | rfl | rfl | rfl
        · go_wp2_with fail
          refine (spans_Right _ _ d.letters (HS.out.1.below HW.out)).mono ?_
          rintro e w2 ⟨rfl, hb2⟩
          have hw2 := HW.out.trans (hb2.mono HW.out.size)
          have HW2 := Lib.hid hw2
          have h6 := H4.out.then hw2
          clear g1 g1' g1'' g8 g9 g10 hb2 hw2
          have H6 := Lib.hid h6
          obtain ⟨_, g1, g1', g1'', g2, g3, g4, g5, g6, g7, g8, g9, g10⟩ := h6
          have G0 := Lib.hid H6.out.below
          obtain ⟨row, hrow⟩ : ∃ row, (rightL d.letters).1 = row := ⟨_, rfl⟩
          obtain ⟨why, hwhy⟩ : ∃ why, (rightL d.letters).2 = why := ⟨_, rfl⟩
          rw [hrow, hwhy]
          have HR := Lib.hid hrow
          have HY := Lib.hid hwhy
          clear hrow hwhy
          by_cases h0 : why = 0
          · subst h0
            go_wp2
            go_roundw
            case rel => exact ⟨1, by omega, by go_num, ⟨fun _ => HY.out, by omega, by omega⟩, HW2.out⟩
            case measure => simp [intOf]
          · have hck := HK2.out
            rw [if_pos (by rw [HY.out]; exact h0), HR.out, HY.out] at hck
            simp only [Prod.mk.injEq] at hck
            obtain ⟨rfl, rfl, rfl⟩ := hck
            have hne : ((why : Int) != 0) = true := by simp; omega
            go_wp2
            refine bodyPost_ret (v := .tuple #[.pointer none, .agg #[.int .i64 why, .int .i64 1, .int .i64 row]]) (by simp [results, Tryd.results82, go_sem, g2, g3, g4]) rfl ⟨by have hg := G0.out; (repeat (first | with_reducible exact Below.refl _ _ | assumption | refine Below.drew ?_ | refine below_drewN ?_ _ | refine Below.alloc ?_ (by first | omega | (simp; done) | (simp; omega)) _ | refine Below.setCell ?_ (by first | omega | (simp; done) | (simp; omega)) _)), .inr ⟨why, 1, row, HCK.out, by omega, rfl⟩⟩
        · go_wp2_with fail
          refine (spans_Right _ _ d.numbers (HS.out.2.1.below HW.out)).mono ?_
          rintro e w2 ⟨rfl, hb2⟩
          have hw2 := HW.out.trans (hb2.mono HW.out.size)
          have HW2 := Lib.hid hw2
          have h6 := H4.out.then hw2
          clear g1 g1' g1'' g8 g9 g10 hb2 hw2
          have H6 := Lib.hid h6
          obtain ⟨_, g1, g1', g1'', g2, g3, g4, g5, g6, g7, g8, g9, g10⟩ := h6
          have G0 := Lib.hid H6.out.below
          obtain ⟨row, hrow⟩ : ∃ row, (rightL d.numbers).1 = row := ⟨_, rfl⟩
          obtain ⟨why, hwhy⟩ : ∃ why, (rightL d.numbers).2 = why := ⟨_, rfl⟩
          rw [hrow, hwhy]
          have HR := Lib.hid hrow
          have HY := Lib.hid hwhy
          clear hrow hwhy
          by_cases h0 : why = 0
          · subst h0
            go_wp2
            go_roundw
            case rel => exact ⟨2, by omega, by go_num, ⟨fun _ => HJ.out.1 (by omega), fun _ => HY.out, by omega⟩, HW2.out⟩
            case measure => simp [intOf]
          · have hck := HK2.out
            rw [if_neg (by simp [HJ.out.1 (by omega)]), if_pos (by rw [HY.out]; exact h0), HR.out, HY.out] at hck
            simp only [Prod.mk.injEq] at hck
            obtain ⟨rfl, rfl, rfl⟩ := hck
            have hne : ((why : Int) != 0) = true := by simp; omega
            go_wp2
            refine bodyPost_ret (v := .tuple #[.pointer none, .agg #[.int .i64 why, .int .i64 2, .int .i64 row]]) (by simp [results, Tryd.results82, go_sem, g2, g3, g4]) rfl ⟨by have hg := G0.out; (repeat (first | with_reducible exact Below.refl _ _ | assumption | refine Below.drew ?_ | refine below_drewN ?_ _ | refine Below.alloc ?_ (by first | omega | (simp; done) | (simp; omega)) _ | refine Below.setCell ?_ (by first | omega | (simp; done) | (simp; omega)) _)), .inr ⟨why, 2, row, HCK.out, by omega, rfl⟩⟩
        · go_wp2_with fail
          refine (spans_Right _ _ d.spaces (HS.out.2.2.below HW.out)).mono ?_
          rintro e w2 ⟨rfl, hb2⟩
          have hw2 := HW.out.trans (hb2.mono HW.out.size)
          have HW2 := Lib.hid hw2
          have h6 := H4.out.then hw2
          clear g1 g1' g1'' g8 g9 g10 hb2 hw2
          have H6 := Lib.hid h6
          obtain ⟨_, g1, g1', g1'', g2, g3, g4, g5, g6, g7, g8, g9, g10⟩ := h6
          have G0 := Lib.hid H6.out.below
          obtain ⟨row, hrow⟩ : ∃ row, (rightL d.spaces).1 = row := ⟨_, rfl⟩
          obtain ⟨why, hwhy⟩ : ∃ why, (rightL d.spaces).2 = why := ⟨_, rfl⟩
          rw [hrow, hwhy]
          have HR := Lib.hid hrow
          have HY := Lib.hid hwhy
          clear hrow hwhy
          by_cases h0 : why = 0
          · subst h0
            go_wp2
            go_roundw
            case rel => exact ⟨3, by omega, by go_num, ⟨fun _ => HJ.out.1 (by omega), fun _ => HJ.out.2.1 (by omega), fun _ => HY.out⟩, HW2.out⟩
            case measure => simp [intOf]
          · have hck := HK2.out
            rw [if_neg (by simp [HJ.out.1 (by omega)]), if_neg (by simp [HJ.out.2.1 (by omega)]), if_pos (by rw [HY.out]; exact h0), HR.out, HY.out] at hck
            simp only [Prod.mk.injEq] at hck
            obtain ⟨rfl, rfl, rfl⟩ := hck
            have hne : ((why : Int) != 0) = true := by simp; omega
            go_wp2
            refine bodyPost_ret (v := .tuple #[.pointer none, .agg #[.int .i64 why, .int .i64 3, .int .i64 row]]) (by simp [results, Tryd.results82, go_sem, g2, g3, g4]) rfl ⟨by have hg := G0.out; (repeat (first | with_reducible exact Below.refl _ _ | assumption | refine Below.drew ?_ | refine below_drewN ?_ _ | refine Below.alloc ?_ (by first | omega | (simp; done) | (simp; omega)) _ | refine Below.setCell ?_ (by first | omega | (simp; done) | (simp; omega)) _)), .inr ⟨why, 3, row, HCK.out, by omega, rfl⟩⟩
        · have RA := rightL_zero (HJ.out.1 (by omega))
          have RB := rightL_zero (HJ.out.2.1 (by omega))
          have RC := rightL_zero (HJ.out.2.2 (by omega))
          have hck := HK2.out
          rw [if_neg (by simp [HJ.out.1 (by omega)]), if_neg (by simp [HJ.out.2.1 (by omega)]), if_neg (by simp [HJ.out.2.2 (by omega)])] at hck
          have HK3 := Lib.hid hck
          have HRA := Lib.hid RA
          have HRB := Lib.hid RB
          have HRC := Lib.hid RC
          clear hck HJ HK2 RA RB RC
          go_wp2
          go_loopw [72] (fun s W => ∃ i : Nat, i ≤ 3 ∧ s = .int .i64 i ∧ ((1 < i → meetL d.numbers d.letters = none) ∧ (2 < i → minO (meetL d.spaces d.letters) (meetL d.spaces d.numbers) = none)) ∧ Below W0.heap.size W0 W) (fun s _ => 3 - (intOf s).toNat)
          case atStart => exact ⟨0, by omega, rfl, ⟨by omega, by omega⟩, HW.out⟩
          case round =>
            clear g1 g1' g1'' g8 g9 g10 HW
            obtain ⟨i, hi, rfl, hj, hw0⟩ := hrel
            have HJ := Lib.hid hj
            have HW := Lib.hid hw0
            clear hj hw0
            have h6 := H4.out.then HW.out
            have H6 := Lib.hid h6
            obtain ⟨_, g1, g1', g1'', g2, g3, g4, g5, g6, g7, g8, g9, g10⟩ := h6
            have G0 := Lib.hid H6.out.below
            rcases (by omega : i = 0 ∨ i = 1 ∨ i = 2 ∨ i = 3) with rfl | rfl | rfl | rfl
            · go_wp2
              refine wp_loop_rounds 1 ?_
              rw [rounds_succ]
              go_wp2
              go_roundw
              case rel => exact ⟨1, by omega, by go_num, ⟨by omega, by omega⟩, HW.out⟩
              case measure => simp [intOf]
            · obtain ⟨o, hm⟩ : ∃ o, meetL d.numbers d.letters = o := ⟨_, rfl⟩
              have MT := spans_Meet wr (.slice A2 d.numbers.length c2) (.slice A1 d.letters.length c1) d.numbers d.letters (HS.out.2.1.below HW.out) (HS.out.1.below HW.out) HRB.out HRA.out
              rw [hm] at MT
              have HMT := Lib.hid MT
              clear MT
              cases o with
              | none =>
                have HM := Lib.hid hm
                clear hm
                go_wp2
                refine wp_loop_rounds 2 ?_
                rw [rounds_succ]
                go_wp2_with fail
                refine HMT.out.mono ?_
                rintro e w2 ⟨rfl, hb2⟩
                have HW2 := Lib.hid (HW.out.trans (hb2.mono HW.out.size))
                clear hb2
                go_wp2
                rw [rounds_succ]
                go_wp2
                go_roundw
                case rel => (repeat apply Exists.intro); exact ⟨⟨2, by omega, by go_num, ⟨fun _ => HM.out, by omega⟩, HW2.out⟩, rfl⟩
                case measure => simp [intOf]
              | some k =>
                have hck := HK3.out
                rw [hm] at hck
                simp only [Prod.mk.injEq] at hck
                obtain ⟨rfl, rfl, rfl⟩ := hck
                have hk := (firstOf_inv hm).1
                have hmn : min (d.numbers.length : Int) (k : Int) = (k : Int) := by omega
                have HM := Lib.hid hm
                clear hm
                go_wp2
                refine wp_loop_rounds 2 ?_
                rw [rounds_succ]
                go_wp2_with fail
                refine HMT.out.mono ?_
                rintro e w2 ⟨rfl, hb2⟩
                have HW2 := Lib.hid (HW.out.trans (hb2.mono HW.out.size))
                clear hb2 HW H6 G0 g1 g1' g1'' g2 g3 g4 g5 g6 g7 g8 g9 g10
                have HW := HW2
                have h6 := H4.out.then HW.out
                have H6 := Lib.hid h6
                obtain ⟨_, g1, g1', g1'', g2, g3, g4, g5, g6, g7, g8, g9, g10⟩ := h6
                have G0 := Lib.hid H6.out.below
                go_wp2
                rw [rounds_succ]
                go_wp2
                refine bodyPost_ret (v := .tuple #[.pointer none, .agg #[.int .i64 16, .int .i64 2, .int .i64 k]]) (by simp [results, Tryd.results82, go_sem, g2, g3, g4]) rfl ⟨by have hg := G0.out; (repeat (first | with_reducible exact Below.refl _ _ | assumption | refine Below.drew ?_ | refine below_drewN ?_ _ | refine Below.alloc ?_ (by first | omega | (simp; done) | (simp; omega)) _ | refine Below.setCell ?_ (by first | omega | (simp; done) | (simp; omega)) _)), .inr ⟨16, 2, k, HCK.out, by omega, rfl⟩⟩
            · have hck := HK3.out
              rw [HJ.out.1 (by omega)] at hck
              have HK4 := Lib.hid hck
              clear hck
              obtain ⟨o, hm⟩ : ∃ o, meetL d.spaces d.letters = o := ⟨_, rfl⟩
              obtain ⟨o2, hm2⟩ : ∃ o, meetL d.spaces d.numbers = o := ⟨_, rfl⟩
              have MT := spans_Meet wr (.slice A3 d.spaces.length c3) (.slice A1 d.letters.length c1) d.spaces d.letters (HS.out.2.2.below HW.out) (HS.out.1.below HW.out) HRC.out HRA.out
              rw [hm] at MT
              have HMT := Lib.hid MT
              clear MT
              cases o with
              | none =>
                cases o2 with
                | none =>
                  have HM := Lib.hid hm
                  have HM2 := Lib.hid hm2
                  clear hm hm2
                  go_wp2
                  refine wp_loop_rounds 3 ?_
                  rw [rounds_succ]
                  go_wp2_with fail
                  refine HMT.out.mono ?_
                  rintro e w2 ⟨rfl, hb2⟩
                  have HW2 := Lib.hid (HW.out.trans (hb2.mono HW.out.size))
                  clear hb2 HW H6 G0 g1 g1' g1'' g2 g3 g4 g5 g6 g7 g8 g9 g10
                  have HW := HW2
                  have h6 := H4.out.then HW.out
                  have H6 := Lib.hid h6
                  obtain ⟨_, g1, g1', g1'', g2, g3, g4, g5, g6, g7, g8, g9, g10⟩ := h6
                  have G0 := Lib.hid H6.out.below
                  go_wp2
                  rw [rounds_succ]
                  go_wp2_with fail
                  have MT := spans_Meet w2 (.slice A3 d.spaces.length c3) (.slice A2 d.numbers.length c2) d.spaces d.numbers (HS.out.2.2.below HW.out) (HS.out.2.1.below HW.out) HRC.out HRB.out
                  rw [HM2.out] at MT
                  refine MT.mono ?_
                  clear MT
                  rintro e w2 ⟨rfl, hb2⟩
                  have HW2 := Lib.hid (HW.out.trans (hb2.mono HW.out.size))
                  clear hb2 HW H6 G0 g1 g1' g1'' g2 g3 g4 g5 g6 g7 g8 g9 g10
                  have HW := HW2
                  have h6 := H4.out.then HW.out
                  have H6 := Lib.hid h6
                  obtain ⟨_, g1, g1', g1'', g2, g3, g4, g5, g6, g7, g8, g9, g10⟩ := h6
                  have G0 := Lib.hid H6.out.below
                  go_wp2
                  rw [rounds_succ]
                  go_wp2
                  go_roundw
                  case rel => (repeat apply Exists.intro); exact ⟨⟨3, by omega, by go_num, ⟨fun _ => HJ.out.1 (by omega), fun _ => by rw [HM.out, HM2.out]; rfl⟩, HW.out⟩, rfl⟩
                  case measure => simp [intOf]
                | some k2 =>
                  have hck := HK4.out
                  rw [hm, hm2] at hck
                  simp only [minO, Prod.mk.injEq] at hck
                  obtain ⟨rfl, rfl, rfl⟩ := hck
                  have hk := (firstOf_inv hm2).1
                  have hmn : min (d.spaces.length : Int) (k2 : Int) = (k2 : Int) := by omega
                  have HM := Lib.hid hm
                  have HM2 := Lib.hid hm2
                  clear hm hm2
                  go_wp2
                  refine wp_loop_rounds 3 ?_
                  rw [rounds_succ]
                  go_wp2_with fail
                  refine HMT.out.mono ?_
                  rintro e w2 ⟨rfl, hb2⟩
                  have HW2 := Lib.hid (HW.out.trans (hb2.mono HW.out.size))
                  clear hb2 HW H6 G0 g1 g1' g1'' g2 g3 g4 g5 g6 g7 g8 g9 g10
                  have HW := HW2
                  have h6 := H4.out.then HW.out
                  have H6 := Lib.hid h6
                  obtain ⟨_, g1, g1', g1'', g2, g3, g4, g5, g6, g7, g8, g9, g10⟩ := h6
                  have G0 := Lib.hid H6.out.below
                  go_wp2
                  rw [rounds_succ]
                  go_wp2_with fail
                  have MT := spans_Meet w2 (.slice A3 d.spaces.length c3) (.slice A2 d.numbers.length c2) d.spaces d.numbers (HS.out.2.2.below HW.out) (HS.out.2.1.below HW.out) HRC.out HRB.out
                  rw [HM2.out] at MT
                  refine MT.mono ?_
                  clear MT
                  rintro e w2 ⟨rfl, hb2⟩
                  have HW2 := Lib.hid (HW.out.trans (hb2.mono HW.out.size))
                  clear hb2 HW H6 G0 g1 g1' g1'' g2 g3 g4 g5 g6 g7 g8 g9 g10
                  have HW := HW2
                  have h6 := H4.out.then HW.out
                  have H6 := Lib.hid h6
                  obtain ⟨_, g1, g1', g1'', g2, g3, g4, g5, g6, g7, g8, g9, g10⟩ := h6
                  have G0 := Lib.hid H6.out.below
                  go_wp2
                  rw [rounds_succ]
                  go_wp2
                  refine bodyPost_ret (v := .tuple #[.pointer none, .agg #[.int .i64 16, .int .i64 3, .int .i64 k2]]) (by simp [results, Tryd.results82, go_sem, g2, g3, g4]) rfl ⟨by have hg := G0.out; (repeat (first | with_reducible exact Below.refl _ _ | assumption | refine Below.drew ?_ | refine below_drewN ?_ _ | refine Below.alloc ?_ (by first | omega | (simp; done) | (simp; omega)) _ | refine Below.setCell ?_ (by first | omega | (simp; done) | (simp; omega)) _)), .inr ⟨16, 3, k2, HCK.out, by omega, rfl⟩⟩
              | some k =>
                have hk := (firstOf_inv hm).1
                have hmn : min (d.spaces.length : Int) (k : Int) = (k : Int) := by omega
                cases o2 with
                | none =>
                  have hck := HK4.out
                  rw [hm, hm2] at hck
                  simp only [minO, Prod.mk.injEq] at hck
                  obtain ⟨rfl, rfl, rfl⟩ := hck
                  have HM := Lib.hid hm
                  have HM2 := Lib.hid hm2
                  clear hm hm2
                  go_wp2
                  refine wp_loop_rounds 3 ?_
                  rw [rounds_succ]
                  go_wp2_with fail
                  refine HMT.out.mono ?_
                  rintro e w2 ⟨rfl, hb2⟩
                  have HW2 := Lib.hid (HW.out.trans (hb2.mono HW.out.size))
                  clear hb2 HW H6 G0 g1 g1' g1'' g2 g3 g4 g5 g6 g7 g8 g9 g10
                  have HW := HW2
                  have h6 := H4.out.then HW.out
                  have H6 := Lib.hid h6
                  obtain ⟨_, g1, g1', g1'', g2, g3, g4, g5, g6, g7, g8, g9, g10⟩ := h6
                  have G0 := Lib.hid H6.out.below
                  go_wp2
                  rw [rounds_succ]
                  go_wp2_with fail
                  have MT := spans_Meet w2 (.slice A3 d.spaces.length c3) (.slice A2 d.numbers.length c2) d.spaces d.numbers (HS.out.2.2.below HW.out) (HS.out.2.1.below HW.out) HRC.out HRB.out
                  rw [HM2.out] at MT
                  refine MT.mono ?_
                  clear MT
                  rintro e w2 ⟨rfl, hb2⟩
                  have HW2 := Lib.hid (HW.out.trans (hb2.mono HW.out.size))
                  clear hb2 HW H6 G0 g1 g1' g1'' g2 g3 g4 g5 g6 g7 g8 g9 g10
                  have HW := HW2
                  have h6 := H4.out.then HW.out
                  have H6 := Lib.hid h6
                  obtain ⟨_, g1, g1', g1'', g2, g3, g4, g5, g6, g7, g8, g9, g10⟩ := h6
                  have G0 := Lib.hid H6.out.below
                  go_wp2
                  rw [rounds_succ]
                  go_wp2
                  refine bodyPost_ret (v := .tuple #[.pointer none, .agg #[.int .i64 16, .int .i64 3, .int .i64 k]]) (by simp [results, Tryd.results82, go_sem, g2, g3, g4]) rfl ⟨by have hg := G0.out; (repeat (first | with_reducible exact Below.refl _ _ | assumption | refine Below.drew ?_ | refine below_drewN ?_ _ | refine Below.alloc ?_ (by first | omega | (simp; done) | (simp; omega)) _ | refine Below.setCell ?_ (by first | omega | (simp; done) | (simp; omega)) _)), .inr ⟨16, 3, k, HCK.out, by omega, rfl⟩⟩
                | some k2 =>
                  have hck := HK4.out
                  rw [hm, hm2] at hck
                  simp only [minO, Prod.mk.injEq] at hck
                  have hk2 := (firstOf_inv hm2).1
                  by_cases hlt : k2 < k
                  · rw [show min k k2 = k2 by omega] at hck
                    obtain ⟨rfl, rfl, rfl⟩ := hck
                    have hmn2 : min (k : Int) (k2 : Int) = (k2 : Int) := by omega
                    have HM := Lib.hid hm
                    have HM2 := Lib.hid hm2
                    clear hm hm2
                    go_wp2
                    refine wp_loop_rounds 3 ?_
                    rw [rounds_succ]
                    go_wp2_with fail
                    refine HMT.out.mono ?_
                    rintro e w2 ⟨rfl, hb2⟩
                    have HW2 := Lib.hid (HW.out.trans (hb2.mono HW.out.size))
                    clear hb2 HW H6 G0 g1 g1' g1'' g2 g3 g4 g5 g6 g7 g8 g9 g10
                    have HW := HW2
                    have h6 := H4.out.then HW.out
                    have H6 := Lib.hid h6
                    obtain ⟨_, g1, g1', g1'', g2, g3, g4, g5, g6, g7, g8, g9, g10⟩ := h6
                    have G0 := Lib.hid H6.out.below
                    go_wp2
                    rw [rounds_succ]
                    go_wp2_with fail
                    have MT := spans_Meet w2 (.slice A3 d.spaces.length c3) (.slice A2 d.numbers.length c2) d.spaces d.numbers (HS.out.2.2.below HW.out) (HS.out.2.1.below HW.out) HRC.out HRB.out
                    rw [HM2.out] at MT
                    refine MT.mono ?_
                    clear MT
                    rintro e w2 ⟨rfl, hb2⟩
                    have HW2 := Lib.hid (HW.out.trans (hb2.mono HW.out.size))
                    clear hb2 HW H6 G0 g1 g1' g1'' g2 g3 g4 g5 g6 g7 g8 g9 g10
                    have HW := HW2
                    have h6 := H4.out.then HW.out
                    have H6 := Lib.hid h6
                    obtain ⟨_, g1, g1', g1'', g2, g3, g4, g5, g6, g7, g8, g9, g10⟩ := h6
                    have G0 := Lib.hid H6.out.below
                    go_wp2
                    rw [rounds_succ]
                    go_wp2
                    refine bodyPost_ret (v := .tuple #[.pointer none, .agg #[.int .i64 16, .int .i64 3, .int .i64 k2]]) (by simp [results, Tryd.results82, go_sem, g2, g3, g4]) rfl ⟨by have hg := G0.out; (repeat (first | with_reducible exact Below.refl _ _ | assumption | refine Below.drew ?_ | refine below_drewN ?_ _ | refine Below.alloc ?_ (by first | omega | (simp; done) | (simp; omega)) _ | refine Below.setCell ?_ (by first | omega | (simp; done) | (simp; omega)) _)), .inr ⟨16, 3, k2, HCK.out, by omega, rfl⟩⟩
                  · rw [show min k k2 = k by omega] at hck
                    obtain ⟨rfl, rfl, rfl⟩ := hck
                    have hmn2 : min (k : Int) (k2 : Int) = (k : Int) := by omega
                    have HM := Lib.hid hm
                    have HM2 := Lib.hid hm2
                    clear hm hm2
                    go_wp2
                    refine wp_loop_rounds 3 ?_
                    rw [rounds_succ]
                    go_wp2_with fail
                    refine HMT.out.mono ?_
                    rintro e w2 ⟨rfl, hb2⟩
                    have HW2 := Lib.hid (HW.out.trans (hb2.mono HW.out.size))
                    clear hb2 HW H6 G0 g1 g1' g1'' g2 g3 g4 g5 g6 g7 g8 g9 g10
                    have HW := HW2
                    have h6 := H4.out.then HW.out
                    have H6 := Lib.hid h6
                    obtain ⟨_, g1, g1', g1'', g2, g3, g4, g5, g6, g7, g8, g9, g10⟩ := h6
                    have G0 := Lib.hid H6.out.below
                    go_wp2
                    rw [rounds_succ]
                    go_wp2_with fail
                    have MT := spans_Meet w2 (.slice A3 d.spaces.length c3) (.slice A2 d.numbers.length c2) d.spaces d.numbers (HS.out.2.2.below HW.out) (HS.out.2.1.below HW.out) HRC.out HRB.out
                    rw [HM2.out] at MT
                    refine MT.mono ?_
                    clear MT
                    rintro e w2 ⟨rfl, hb2⟩
                    have HW2 := Lib.hid (HW.out.trans (hb2.mono HW.out.size))
                    clear hb2 HW H6 G0 g1 g1' g1'' g2 g3 g4 g5 g6 g7 g8 g9 g10
                    have HW := HW2
                    have h6 := H4.out.then HW.out
                    have H6 := Lib.hid h6
                    obtain ⟨_, g1, g1', g1'', g2, g3, g4, g5, g6, g7, g8, g9, g10⟩ := h6
                    have G0 := Lib.hid H6.out.below
                    go_wp2
                    rw [rounds_succ]
                    go_wp2
                    refine bodyPost_ret (v := .tuple #[.pointer none, .agg #[.int .i64 16, .int .i64 3, .int .i64 k]]) (by simp [results, Tryd.results82, go_sem, g2, g3, g4]) rfl ⟨by have hg := G0.out; (repeat (first | with_reducible exact Below.refl _ _ | assumption | refine Below.drew ?_ | refine below_drewN ?_ _ | refine Below.alloc ?_ (by first | omega | (simp; done) | (simp; omega)) _ | refine Below.setCell ?_ (by first | omega | (simp; done) | (simp; omega)) _)), .inr ⟨16, 3, k, HCK.out, by omega, rfl⟩⟩
            · have hck := HK3.out
              rw [HJ.out.1 (by omega)] at hck
              simp only [HJ.out.2 (by omega)] at hck
              obtain ⟨m1, m2⟩ := minO_none (HJ.out.2 (by omega))
              rw [blankBad_kind d m1 m2] at hck
              have HK4 := Lib.hid hck
              clear hck m1 m2
              have ho : ∀ W, Below W0.heap.size W0 W → ∀ x, Calls Tryd.prog 62 #[.pointer (some ⟨t, 0, none⟩), .int .i32 x] W fun e w' => e = .returned (.int .i64 (kindOf d x : Nat)) ∧ Below W.heap.size W w' := by
                intro W h x
                have h4 := H4.out.then h
                exact Table_Of W t d x ⟨_, _, _, h4.l0, h4.l1, h4.l2, HS.out.1.below h, HS.out.2.1.below h, HS.out.2.2.below h⟩ ⟨HRA.out, HRB.out, HRC.out⟩
              have HO := Lib.hid ho
              clear ho
              go_wp2_with fail
              refine (HO.out _ HW.out 32).mono ?_
              rintro e w2 ⟨rfl, hb2⟩
              have HW2 := Lib.hid (HW.out.trans (hb2.mono HW.out.size))
              clear hb2 HW H6 G0 g1 g1' g1'' g2 g3 g4 g5 g6 g7 g8 g9 g10
              have HW := HW2
              have h6 := H4.out.then HW.out
              have H6 := Lib.hid h6
              obtain ⟨_, g1, g1', g1'', g2, g3, g4, g5, g6, g7, g8, g9, g10⟩ := h6
              have G0 := Lib.hid H6.out.below
              obtain ⟨k1, hk1⟩ : ∃ k, kindOf d 32 = k := ⟨_, rfl⟩
              rw [hk1]
              have HK1 := Lib.hid hk1
              clear hk1
              by_cases e1 : k1 = 3
              case neg =>
                have hne : ((k1 : Int) != 3) = true := by simp; omega
                have hck := HK4.out
                rw [HK1.out, decide_eq_true e1] at hck
                simp only [Bool.true_or, if_true, Prod.mk.injEq] at hck
                obtain ⟨rfl, rfl, rfl⟩ := hck
                go_wp2
                refine bodyPost_ret (v := .tuple #[.pointer none, .agg #[.int .i64 20, .int .i64 3, .int .i64 0]]) (by simp [results, Tryd.results82, go_sem, g2, g3, g4]) rfl ⟨by have hg := G0.out; (repeat (first | with_reducible exact Below.refl _ _ | assumption | refine Below.drew ?_ | refine below_drewN ?_ _ | refine Below.alloc ?_ (by first | omega | (simp; done) | (simp; omega)) _ | refine Below.setCell ?_ (by first | omega | (simp; done) | (simp; omega)) _)), .inr ⟨20, 3, 0, HCK.out, by omega, rfl⟩⟩
              subst e1
              go_wp2_with fail
              refine (HO.out _ HW.out 39).mono ?_
              rintro e w2 ⟨rfl, hb2⟩
              have HW2 := Lib.hid (HW.out.trans (hb2.mono HW.out.size))
              clear hb2 HW H6 G0 g1 g1' g1'' g2 g3 g4 g5 g6 g7 g8 g9 g10
              have HW := HW2
              have h6 := H4.out.then HW.out
              have H6 := Lib.hid h6
              obtain ⟨_, g1, g1', g1'', g2, g3, g4, g5, g6, g7, g8, g9, g10⟩ := h6
              have G0 := Lib.hid H6.out.below
              obtain ⟨k2, hk2⟩ : ∃ k, kindOf d 39 = k := ⟨_, rfl⟩
              rw [hk2]
              have HK2 := Lib.hid hk2
              clear hk2
              by_cases e2 : k2 = 4
              case neg =>
                have hne : ((k2 : Int) != 4) = true := by simp; omega
                have hck := HK4.out
                rw [HK1.out, HK2.out, decide_eq_true e2] at hck
                simp only [Bool.or_true, if_true, Prod.mk.injEq] at hck
                obtain ⟨rfl, rfl, rfl⟩ := hck
                go_wp2
                refine bodyPost_ret (v := .tuple #[.pointer none, .agg #[.int .i64 20, .int .i64 3, .int .i64 0]]) (by simp [results, Tryd.results82, go_sem, g2, g3, g4]) rfl ⟨by have hg := G0.out; (repeat (first | with_reducible exact Below.refl _ _ | assumption | refine Below.drew ?_ | refine below_drewN ?_ _ | refine Below.alloc ?_ (by first | omega | (simp; done) | (simp; omega)) _ | refine Below.setCell ?_ (by first | omega | (simp; done) | (simp; omega)) _)), .inr ⟨20, 3, 0, HCK.out, by omega, rfl⟩⟩
              subst e2
              have hck := HK4.out
              rw [HK1.out, HK2.out] at hck
              simp at hck
              obtain ⟨rfl, rfl, rfl⟩ := hck
              go_wp2
              refine bodyPost_ret (v := .tuple #[.pointer (some ⟨t, 0, none⟩), .agg #[.int .i64 0, .int .i64 0, .int .i64 0]]) (by simp [results, Tryd.results82, go_sem, g2, g3, g4]) rfl ⟨by have hg := G0.out; (repeat (first | with_reducible exact Below.refl _ _ | assumption | refine Below.drew ?_ | refine below_drewN ?_ _ | refine Below.alloc ?_ (by first | omega | (simp; done) | (simp; omega)) _ | refine Below.setCell ?_ (by first | omega | (simp; done) | (simp; omega)) _)), .inl ⟨t, HCK.out, rfl, by omega, ?_, ⟨HRA.out, HRB.out, HRC.out⟩⟩⟩
              have ne1 : ∀ b, (Value.slice A1 d.letters.length c1).ownBlock = some b → b ≠ w.heap.size := fun b hb => by have := F1.out b hb; omega
              have ne2 : ∀ b, (Value.slice A2 d.numbers.length c2).ownBlock = some b → b ≠ w.heap.size := fun b hb => by have := F2.out b hb; omega
              have ne3 : ∀ b, (Value.slice A3 d.spaces.length c3).ownBlock = some b → b ≠ w.heap.size := fun b hb => by have := F3.out b hb; omega
              exact ⟨_, _, _, by go_simp, by go_simp, by go_simp,
                (HS.out.1.below HW.out).same (SameAt.setCell (SameAt.setCell (SameAt.setCell (SameAt.refl _ _) _ _ ne1) _ _ ne1) _ _ ne1),
                (HS.out.2.1.below HW.out).same (SameAt.setCell (SameAt.setCell (SameAt.setCell (SameAt.refl _ _) _ _ ne2) _ _ ne2) _ _ ne2),
                (HS.out.2.2.below HW.out).same (SameAt.setCell (SameAt.setCell (SameAt.setCell (SameAt.refl _ _) _ _ ne3) _ _ ne3) _ _ ne3)⟩
end Go.Proofs.YtpfnmcgcpgcfjaaDoor
