/- Contracts of the reference's chapter 5: Check; of tesserakeep.Large. -/
import Derived.Test.YtpfnmcgcpgcfjaaDoorRef5b
import Derived.Test.YtpfnmcgcpgcfjaaDoorRef4
namespace Go.Proofs.YtpfnmcgcpgcfjaaDoor
open Go.RowKit Tess
def large (d : Dat) : Bool := decide (300 < d.merges.length) && decide (d.merges.length ≤ 4096)
set_option maxHeartbeats 1000000 in
theorem keep_Large (w : World) (vw vm va vb vc : Value) (d : Dat) (hD : DataIn w vw vm va vb vc d) :
   Calls Tryd.prog 55 #[.agg #[vw, vm, va, vb, vc]] w fun e w' => e = .returned (.bool (large d)) ∧ Below w.heap.size w w' := by
  obtain ⟨A', c', rfl⟩ := hD.merges.form
  have hlen' := hD.merges.1
  clear hD
  unfold large
  by_cases h : 300 < d.merges.length
  · by_cases h' : d.merges.length ≤ 4096
    · rw [decide_eq_true h, decide_eq_true h']
      go_enter Tryd.func55, Tryd.ntmps55
      go_wp2
      go_ret
      refine ⟨?_, by (repeat (first | with_reducible exact Below.refl _ _ | assumption | refine Below.drew ?_ | refine below_drewN ?_ _ | refine Below.alloc ?_ (by first | omega | (simp; done) | (simp; omega)) _ | refine Below.setCell ?_ (by first | omega | (simp; done) | (simp; omega)) _))⟩
      show Ending.returned (Value.bool (decide ((d.merges.length : Int) ≤ 4096))) = _
      rw [decide_eq_true (by omega)]; rfl
    · rw [decide_eq_true h, decide_eq_false h']
      go_enter Tryd.func55, Tryd.ntmps55
      go_wp2
      go_ret
      refine ⟨?_, by (repeat (first | with_reducible exact Below.refl _ _ | assumption | refine Below.drew ?_ | refine below_drewN ?_ _ | refine Below.alloc ?_ (by first | omega | (simp; done) | (simp; omega)) _ | refine Below.setCell ?_ (by first | omega | (simp; done) | (simp; omega)) _))⟩
      show Ending.returned (Value.bool (decide ((d.merges.length : Int) ≤ 4096))) = _
      rw [decide_eq_false (by omega)]; rfl
  · rw [decide_eq_false h]
    go_enter Tryd.func55, Tryd.ntmps55
    go_wp2
    go_ret
    exact ⟨rfl, by (repeat (first | with_reducible exact Below.refl _ _ | assumption | refine Below.drew ?_ | refine below_drewN ?_ _ | refine Below.alloc ?_ (by first | omega | (simp; done) | (simp; omega)) _ | refine Below.setCell ?_ (by first | omega | (simp; done) | (simp; omega)) _))⟩
set_option maxHeartbeats 8000000 in
set_option maxRecDepth 100000 in
theorem ref5_Check (w : World) (vw vm va vb vc : Value) (d : Dat) (hD : DataIn w vw vm va vb vc d) :
   Calls Tryd.prog 57 #[.agg #[vw, vm, va, vb, vc]] w fun e w' => e = .returned (.agg #[.int .i64 (((check5 d).1 : Nat) : Int), .int .i64 (((check5 d).2.1 : Nat) : Int), .int .i64 (((check5 d).2.2 : Nat) : Int)]) ∧ Below w.heap.size w w' := by
  obtain ⟨A, c, rfl⟩ := hD.words.form
  obtain ⟨A', c', rfl⟩ := hD.merges.form
  have hlen := hD.words.1
  have hlen' := hD.merges.1
  have HD := Lib.hid hD
  clear hD
  obtain ⟨p, q, r, hck⟩ : ∃ p q r, check5 d = (p, q, r) := ⟨_, _, _, rfl⟩
  rw [hck]
  unfold check5 at hck
  have HCK := Lib.hid hck
  clear hck
  by_cases h1 : 4096 < d.merges.length
  · have hck := HCK.out
    rw [if_pos h1] at hck
    simp only [Prod.mk.injEq] at hck
    obtain ⟨rfl, rfl, rfl⟩ := hck
    go_enter Tryd.func57, Tryd.ntmps57
    go_wp2
    refine bodyPost_ret (v := .agg #[.int .i64 4, .int .i64 5, .int .i64 4096]) (by simp [results, Tryd.results57, go_sem]) rfl ⟨rfl, by (repeat (first | with_reducible exact Below.refl _ _ | assumption | refine Below.drew ?_ | refine below_drewN ?_ _ | refine Below.alloc ?_ (by first | omega | (simp; done) | (simp; omega)) _ | refine Below.setCell ?_ (by first | omega | (simp; done) | (simp; omega)) _))⟩
  by_cases h2 : d.words.length = d.merges.length
  case neg =>
    have hck := HCK.out
    rw [if_neg h1, if_pos h2] at hck
    simp only [Prod.mk.injEq] at hck
    have hb1 : ((d.words.length : Int) != (d.merges.length : Int)) = true := by simp; omega
    have hb2 : (d.words.length != d.merges.length) = true := by simp; omega
    by_cases h3 : d.merges.length < d.words.length
    · rw [show min d.words.length d.merges.length = d.merges.length by omega] at hck
      obtain ⟨rfl, rfl, rfl⟩ := hck
      clear h2
      go_enter Tryd.func57, Tryd.ntmps57
      go_wp2
      refine bodyPost_ret (v := .agg #[.int .i64 4, .int .i64 4, .int .i64 d.merges.length]) (by simp [results, Tryd.results57, go_sem]) rfl ⟨rfl, by (repeat (first | with_reducible exact Below.refl _ _ | assumption | refine Below.drew ?_ | refine below_drewN ?_ _ | refine Below.alloc ?_ (by first | omega | (simp; done) | (simp; omega)) _ | refine Below.setCell ?_ (by first | omega | (simp; done) | (simp; omega)) _))⟩
    · rw [show min d.words.length d.merges.length = d.words.length by omega] at hck
      obtain ⟨rfl, rfl, rfl⟩ := hck
      clear h2
      go_enter Tryd.func57, Tryd.ntmps57
      go_wp2
      refine bodyPost_ret (v := .agg #[.int .i64 4, .int .i64 4, .int .i64 d.words.length]) (by simp [results, Tryd.results57, go_sem]) rfl ⟨rfl, by (repeat (first | with_reducible exact Below.refl _ _ | assumption | refine Below.drew ?_ | refine below_drewN ?_ _ | refine Below.alloc ?_ (by first | omega | (simp; done) | (simp; omega)) _ | refine Below.setCell ?_ (by first | omega | (simp; done) | (simp; omega)) _))⟩
  have hb1 : ((d.words.length : Int) != (d.merges.length : Int)) = false := by simp; omega
  have hb2 : (d.words.length != d.merges.length) = false := by simp; omega
  have hck := HCK.out
  rw [if_neg h1, if_neg (by simp [h2])] at hck
  have HK2 := Lib.hid hck
  clear hck HCK h2
  go_enter Tryd.func57, Tryd.ntmps57
  go_wp2_with fail
  obtain ⟨W0, hW0, h5⟩ : ∃ W0, ((w.alloc (Obj.cells #[.slice A d.words.length c, .slice A' d.merges.length c', va, vb, vc] 26)).alloc (Obj.cells #[.int .i64 0, .int .i64 0, .int .i64 0] 107)) = W0 ∧ C5 w W0 (.slice A d.words.length c) (.slice A' d.merges.length c') va vb vc := ⟨_, rfl, C5.start _ _ _ _ _ _ _ _⟩
  rw [hW0]
  clear hW0
  have H5 := Lib.hid h5
  clear h5
  refine (ref4_Check _ va vb vc d.letters d.numbers d.spaces (HD.out.letters.below H5.out.below) (HD.out.numbers.below H5.out.below) (HD.out.spaces.below H5.out.below)).mono ?_
  rintro e w2 ⟨rfl, hb2⟩
  have h5 := H5.out.then hb2
  have H5 := Lib.hid h5
  obtain ⟨_, g1, g2, g2', g2a, g2b, g2c, g3, g4, g5, g6, g7, g8⟩ := h5
  have G0 := Lib.hid H5.out.below
  have gs0 : w.heap.size < w2.heap.size := by omega
  have gs1 : w.heap.size + 1 < w2.heap.size := by omega
  clear hb2
  have hck := HK2.out
  obtain ⟨p4, q4, r4, h4⟩ : ∃ p q r, check4 d.letters d.numbers d.spaces = (p, q, r) := ⟨_, _, _, rfl⟩
  rw [h4] at hck
  rw [h4]
  have HK3 := Lib.hid hck
  clear hck h4 HK2
  by_cases h0 : p4 = 0
  case neg =>
    have hne : ((p4 : Int) != 0) = true := by simp; omega
    have hck := HK3.out
    rw [if_pos h0] at hck
    simp only [Prod.mk.injEq] at hck
    obtain ⟨rfl, rfl, rfl⟩ := hck
    clear h0
    go_wp2
    refine bodyPost_ret (v := .agg #[.int .i64 p4, .int .i64 q4, .int .i64 r4]) (by simp [results, Tryd.results57, go_sem, g3, g4, g5, gs0, gs1]) rfl ⟨rfl, ?_⟩
    have hg := G0.out
    (repeat (first | with_reducible exact Below.refl _ _ | assumption | refine Below.drew ?_ | refine below_drewN ?_ _ | refine Below.alloc ?_ (by first | omega | (simp; done) | (simp; omega)) _ | refine Below.setCell ?_ (by first | omega | (simp; done) | (simp; omega)) _))
  subst h0
  have hck := HK3.out
  rw [if_neg (by simp)] at hck
  have HK4 := Lib.hid hck
  clear hck HK3
  go_wp2_with fail
  have hb3 : Below w2.heap.size w2 (w2.alloc (Obj.cells #[.int .i64 (0 : Nat), .int .i64 (q4 : Nat), .int .i64 (r4 : Nat)] 160)) := by (repeat (first | with_reducible exact Below.refl _ _ | assumption | refine Below.drew ?_ | refine below_drewN ?_ _ | refine Below.alloc ?_ (by first | omega | (simp; done) | (simp; omega)) _ | refine Below.setCell ?_ (by first | omega | (simp; done) | (simp; omega)) _))
  refine (ref5_words _ _ _ _ _ _ d.words (HD.out.words.below (H5.out.then hb3).below)).mono ?_
  rintro e w3 ⟨rfl, hb4⟩
  have h5 := (H5.out.then hb3).then hb4
  have H5 := Lib.hid h5
  clear hb3 hb4 g1 g2 g2' g2a g2b g2c g3 g4 g5 g6 g7 g8 gs0 gs1 G0
  obtain ⟨_, g1, g2, g2', g2a, g2b, g2c, g3, g4, g5, g6, g7, g8⟩ := h5
  have G0 := Lib.hid H5.out.below
  have gs0 : w.heap.size < w3.heap.size := by omega
  have gs1 : w.heap.size + 1 < w3.heap.size := by omega
  have hck := HK4.out
  obtain ⟨p5, q5, r5, h4⟩ : ∃ p q r, wordsL d.words = (p, q, r) := ⟨_, _, _, rfl⟩
  rw [h4] at hck
  rw [h4]
  have HK5 := Lib.hid hck
  clear hck h4 HK4
  by_cases h0 : p5 = 0
  case neg =>
    have hne : ((p5 : Int) != 0) = true := by simp; omega
    have hck := HK5.out
    rw [if_pos h0] at hck
    simp only [Prod.mk.injEq] at hck
    obtain ⟨rfl, rfl, rfl⟩ := hck
    clear h0
    go_wp2
    refine bodyPost_ret (v := .agg #[.int .i64 p5, .int .i64 q5, .int .i64 r5]) (by simp [results, Tryd.results57, go_sem, g3, g4, g5, gs0, gs1]) rfl ⟨rfl, ?_⟩
    have hg := G0.out
    (repeat (first | with_reducible exact Below.refl _ _ | assumption | refine Below.drew ?_ | refine below_drewN ?_ _ | refine Below.alloc ?_ (by first | omega | (simp; done) | (simp; omega)) _ | refine Below.setCell ?_ (by first | omega | (simp; done) | (simp; omega)) _))
  subst h0
  have hck := HK5.out
  rw [if_neg (by simp)] at hck
  have HK6 := Lib.hid hck
  clear hck HK5
  go_wp2_with fail
  have hb3 : Below w3.heap.size w3 (w3.alloc (Obj.cells #[.int .i64 (0 : Nat), .int .i64 (q5 : Nat), .int .i64 (r5 : Nat)] 107)) := by (repeat (first | with_reducible exact Below.refl _ _ | assumption | refine Below.drew ?_ | refine below_drewN ?_ _ | refine Below.alloc ?_ (by first | omega | (simp; done) | (simp; omega)) _ | refine Below.setCell ?_ (by first | omega | (simp; done) | (simp; omega)) _))
  refine (ref5_merges _ _ _ _ _ _ d.words d.merges (HD.out.words.below (H5.out.then hb3).below) (HD.out.merges.below (H5.out.then hb3).below)).mono ?_
  rintro e w4 ⟨rfl, hb4⟩
  have h5 := (H5.out.then hb3).then hb4
  have H5 := Lib.hid h5
  clear hb3 hb4 g1 g2 g2' g2a g2b g2c g3 g4 g5 g6 g7 g8 gs0 gs1 G0
  obtain ⟨_, g1, g2, g2', g2a, g2b, g2c, g3, g4, g5, g6, g7, g8⟩ := h5
  have G0 := Lib.hid H5.out.below
  have gs0 : w.heap.size < w4.heap.size := by omega
  have gs1 : w.heap.size + 1 < w4.heap.size := by omega
  rw [HK6.out]
  go_wp2
  refine bodyPost_ret (v := .agg #[.int .i64 p, .int .i64 q, .int .i64 r]) (by simp [results, Tryd.results57, go_sem, g3, g4, g5, gs0, gs1]) rfl ⟨rfl, ?_⟩
  have hg := G0.out
  (repeat (first | with_reducible exact Below.refl _ _ | assumption | refine Below.drew ?_ | refine below_drewN ?_ _ | refine Below.alloc ?_ (by first | omega | (simp; done) | (simp; omega)) _ | refine Below.setCell ?_ (by first | omega | (simp; done) | (simp; omega)) _))
end Go.Proofs.YtpfnmcgcpgcfjaaDoor
