/- Contract of tesserakeep.Of. -/
import Derived.Test.YtpfnmcgcpgcfjaaDoorMNew
import Derived.Test.YtpfnmcgcpgcfjaaDoorRef5c
namespace Go.Proofs.YtpfnmcgcpgcfjaaDoor
open Go.RowKit Tess
/-- What Of answers: a right model, or none. -/
def OfSaid (w : World) (d : Dat) (e : Ending) (w' : World) : Prop :=
  Below w.heap.size w w' ∧ ((∃ g, large d = false ∧ e = .returned (.tuple #[.pointer (some ⟨g, 0, none⟩), .bool true, .bool true]) ∧ IsModel w' g d) ∨
    ((large d = true ∨ (check5 d).1 ≠ 0) ∧ e = .returned (.tuple #[.pointer none, .bool false, .bool true])))
set_option maxHeartbeats 16000000 in
set_option maxRecDepth 100000 in
theorem keep_Of (w : World) (vw vm va vb vc : Value) (d : Dat) (hD : DataIn w vw vm va vb vc d) :
    Calls Tryd.prog 14 #[.agg #[vw, vm, va, vb, vc]] w (OfSaid w d) := by
  have HD := Lib.hid hD
  obtain ⟨A1, c1, rfl⟩ := hD.words.form
  obtain ⟨A2, c2, rfl⟩ := hD.merges.form
  obtain ⟨A3, c3, rfl⟩ := hD.letters.form
  obtain ⟨A4, c4, rfl⟩ := hD.numbers.form
  obtain ⟨A5, c5, rfl⟩ := hD.spaces.form
  clear hD
  have hba : Below w.heap.size w (w.alloc (Obj.cells #[.slice A1 d.words.length c1, .slice A2 d.merges.length c2, .slice A3 d.letters.length c3, .slice A4 d.numbers.length c4, .slice A5 d.spaces.length c5] 26)) := by (repeat (first | with_reducible exact Below.refl _ _ | assumption | refine Below.drew ?_ | refine below_drewN ?_ _ | refine Below.alloc ?_ (by first | omega | (simp; done) | (simp; omega)) _ | refine Below.setCell ?_ (by first | omega | (simp; done) | (simp; omega)) _))
  have hd0 := HD.out.below hba
  have hz0 : w.heap.size < (w.alloc (Obj.cells #[.slice A1 d.words.length c1, .slice A2 d.merges.length c2, .slice A3 d.letters.length c3, .slice A4 d.numbers.length c4, .slice A5 d.spaces.length c5] 26)).heap.size := by simp
  have k0 : (w.alloc (Obj.cells #[.slice A1 d.words.length c1, .slice A2 d.merges.length c2, .slice A3 d.letters.length c3, .slice A4 d.numbers.length c4, .slice A5 d.spaces.length c5] 26)).cell? ⟨w.heap.size, 0, none⟩ = some (.slice A1 d.words.length c1) := by go_simp
  have k1 : (w.alloc (Obj.cells #[.slice A1 d.words.length c1, .slice A2 d.merges.length c2, .slice A3 d.letters.length c3, .slice A4 d.numbers.length c4, .slice A5 d.spaces.length c5] 26)).cell? ⟨w.heap.size, 1, none⟩ = some (.slice A2 d.merges.length c2) := by go_simp
  have k2 : (w.alloc (Obj.cells #[.slice A1 d.words.length c1, .slice A2 d.merges.length c2, .slice A3 d.letters.length c3, .slice A4 d.numbers.length c4, .slice A5 d.spaces.length c5] 26)).cell? ⟨w.heap.size, 2, none⟩ = some (.slice A3 d.letters.length c3) := by go_simp
  have k3 : (w.alloc (Obj.cells #[.slice A1 d.words.length c1, .slice A2 d.merges.length c2, .slice A3 d.letters.length c3, .slice A4 d.numbers.length c4, .slice A5 d.spaces.length c5] 26)).cell? ⟨w.heap.size, 3, none⟩ = some (.slice A4 d.numbers.length c4) := by go_simp
  have k4 : (w.alloc (Obj.cells #[.slice A1 d.words.length c1, .slice A2 d.merges.length c2, .slice A3 d.letters.length c3, .slice A4 d.numbers.length c4, .slice A5 d.spaces.length c5] 26)).cell? ⟨w.heap.size, 4, none⟩ = some (.slice A5 d.spaces.length c5) := by go_simp
  have HD0 := Lib.hid hd0
  have HB0 := Lib.hid hba
  clear hd0 hba HD
  go_enter Tryd.func14, Tryd.ntmps14
  go_wp2_with fail
  generalize w.alloc (Obj.cells #[.slice A1 d.words.length c1, .slice A2 d.merges.length c2, .slice A3 d.letters.length c3, .slice A4 d.numbers.length c4, .slice A5 d.spaces.length c5] 26) = W0 at HD0 HB0 hz0 k0 k1 k2 k3 k4 ⊢
  refine (keep_Large W0 _ _ _ _ _ d HD0.out).mono ?_
  rintro e W1 ⟨rfl, hb1⟩
  have HD1 := Lib.hid (HD0.out.below hb1)
  have HB1 := Lib.hid (below_then HB0.out (Nat.le_of_lt hz0) hb1)
  have hz1 : w.heap.size < W1.heap.size := Nat.lt_of_lt_of_le hz0 hb1.size
  have m0 := cell_below hb1 k0
  have m1 := cell_below hb1 k1
  have m2 := cell_below hb1 k2
  have m3 := cell_below hb1 k3
  have m4 := cell_below hb1 k4
  clear hb1 HD0 HB0 hz0 k0 k1 k2 k3 k4
  cases hL : large d
  case true =>
    go_wp2
    refine bodyPost_ret (v := .tuple #[.pointer none, .bool false, .bool true]) (by simp [results, Tryd.results14, go_sem]) rfl ⟨HB1.out, .inr ⟨.inl hL, rfl⟩⟩
  go_wp2_with fail
  refine (model_New W1 _ _ _ _ _ d HD1.out).mono ?_
  rintro e W2 ⟨hb2, hor⟩
  have HO := Lib.hid hor
  have HD2 := Lib.hid (HD1.out.below hb2)
  have HB2 := Lib.hid (below_then HB1.out (Nat.le_of_lt hz1) hb2)
  have hz2 : w.heap.size < W2.heap.size := Nat.lt_of_lt_of_le hz1 hb2.size
  have k0 := cell_below hb2 m0
  have k1 := cell_below hb2 m1
  have k2 := cell_below hb2 m2
  have k3 := cell_below hb2 m3
  have k4 := cell_below hb2 m4
  clear hb2 HD1 HB1 hz1 m0 m1 m2 m3 m4 hor
  rcases HO.out with ⟨g, hck, rfl, hm⟩ | ⟨p, q, r, hck, hp, rfl⟩
  · have hba : Below W2.heap.size W2 (W2.alloc (Obj.cells #[.int .i64 0, .int .i64 0, .int .i64 0] 103)) := by (repeat (first | with_reducible exact Below.refl _ _ | assumption | refine Below.drew ?_ | refine below_drewN ?_ _ | refine Below.alloc ?_ (by first | omega | (simp; done) | (simp; omega)) _ | refine Below.setCell ?_ (by first | omega | (simp; done) | (simp; omega)) _))
    have HM := Lib.hid (hm.below hba)
    have HC := Lib.hid hck
    have HD3 := Lib.hid (HD2.out.below hba)
    have HB3 := Lib.hid (below_then HB2.out (Nat.le_of_lt hz2) hba)
    clear hm hck hba
    go_wp2_with fail
    refine (ref5_Check _ _ _ _ _ _ d HD3.out).mono ?_
    rw [HC.out]
    rintro e W3 ⟨rfl, hb3⟩
    have hzz : W2.heap.size < W3.heap.size := Nat.lt_of_lt_of_le (by simp) hb3.size
    have e0 := cell_below hb3 (a := ⟨W2.heap.size, 0, none⟩) (v := .int .i64 0) (by go_simp)
    have e1 := cell_below hb3 (a := ⟨W2.heap.size, 1, none⟩) (v := .int .i64 0) (by go_simp)
    have e2 := cell_below hb3 (a := ⟨W2.heap.size, 2, none⟩) (v := .int .i64 0) (by go_simp)
    have HB4 := Lib.hid (below_then HB3.out (by simp; omega) hb3)
    have HM4 := Lib.hid (HM.out.below hb3)
    clear hb3 HD3 HM HB3 k0 k1 k2 k3 k4 HD2 HB2
    go_wp2
    refine bodyPost_ret (v := .tuple #[.pointer (some ⟨g, 0, none⟩), .bool true, .bool true]) (by simp [results, Tryd.results14, go_sem]) rfl ⟨by have hg := HB4.out; (repeat (first | with_reducible exact Below.refl _ _ | assumption | refine Below.drew ?_ | refine below_drewN ?_ _ | refine Below.alloc ?_ (by first | omega | (simp; done) | (simp; omega)) _ | refine Below.setCell ?_ (by first | omega | (simp; done) | (simp; omega)) _)), .inl ⟨g, hL, rfl, HM4.out.below (by (repeat (first | with_reducible exact Below.refl _ _ | assumption | refine Below.drew ?_ | refine below_drewN ?_ _ | refine Below.alloc ?_ (by first | omega | (simp; done) | (simp; omega)) _ | refine Below.setCell ?_ (by first | omega | (simp; done) | (simp; omega)) _)))⟩⟩
  · have hba : Below W2.heap.size W2 (W2.alloc (Obj.cells #[.int .i64 (p : Nat), .int .i64 (q : Nat), .int .i64 (r : Nat)] 103)) := by (repeat (first | with_reducible exact Below.refl _ _ | assumption | refine Below.drew ?_ | refine below_drewN ?_ _ | refine Below.alloc ?_ (by first | omega | (simp; done) | (simp; omega)) _ | refine Below.setCell ?_ (by first | omega | (simp; done) | (simp; omega)) _))
    have HC := Lib.hid hck
    have HD3 := Lib.hid (HD2.out.below hba)
    have HB3 := Lib.hid (below_then HB2.out (Nat.le_of_lt hz2) hba)
    clear hck hba
    go_wp2_with fail
    refine (ref5_Check _ _ _ _ _ _ d HD3.out).mono ?_
    rw [HC.out]
    rintro e W3 ⟨rfl, hb3⟩
    have hzz : W2.heap.size < W3.heap.size := Nat.lt_of_lt_of_le (by simp) hb3.size
    have e0 := cell_below hb3 (a := ⟨W2.heap.size, 0, none⟩) (v := .int .i64 (p : Nat)) (by go_simp)
    have e1 := cell_below hb3 (a := ⟨W2.heap.size, 1, none⟩) (v := .int .i64 (q : Nat)) (by go_simp)
    have e2 := cell_below hb3 (a := ⟨W2.heap.size, 2, none⟩) (v := .int .i64 (r : Nat)) (by go_simp)
    have HB4 := Lib.hid (below_then HB3.out (by simp; omega) hb3)
    clear hb3 HD3 HB3 k0 k1 k2 k3 k4 HD2 HB2
    have hne : ((p : Int) != 0) = true := by simp; omega
    go_wp2_with fail
    have HB5 := Lib.hid (HB4.out.alloc (by omega) (Obj.cells #[.int .i64 (p : Nat), .int .i64 (q : Nat), .int .i64 (r : Nat)] 107))
    have c0 : (W3.alloc (Obj.cells #[.int .i64 (p : Nat), .int .i64 (q : Nat), .int .i64 (r : Nat)] 107)).cell? ⟨W3.heap.size, 0, none⟩ = some (.int .i64 (p : Nat)) := by go_simp
    have c1 : (W3.alloc (Obj.cells #[.int .i64 (p : Nat), .int .i64 (q : Nat), .int .i64 (r : Nat)] 107)).cell? ⟨W3.heap.size, 1, none⟩ = some (.int .i64 (q : Nat)) := by go_simp
    have c2 : (W3.alloc (Obj.cells #[.int .i64 (p : Nat), .int .i64 (q : Nat), .int .i64 (r : Nat)] 107)).cell? ⟨W3.heap.size, 2, none⟩ = some (.int .i64 (r : Nat)) := by go_simp
    have e0' : (W3.alloc (Obj.cells #[.int .i64 (p : Nat), .int .i64 (q : Nat), .int .i64 (r : Nat)] 107)).cell? ⟨W2.heap.size, 0, none⟩ = some (.int .i64 (p : Nat)) := by go_simp
    have e1' : (W3.alloc (Obj.cells #[.int .i64 (p : Nat), .int .i64 (q : Nat), .int .i64 (r : Nat)] 107)).cell? ⟨W2.heap.size, 1, none⟩ = some (.int .i64 (q : Nat)) := by go_simp
    have e2' : (W3.alloc (Obj.cells #[.int .i64 (p : Nat), .int .i64 (q : Nat), .int .i64 (r : Nat)] 107)).cell? ⟨W2.heap.size, 2, none⟩ = some (.int .i64 (r : Nat)) := by go_simp
    generalize W3.alloc (Obj.cells #[.int .i64 (p : Nat), .int .i64 (q : Nat), .int .i64 (r : Nat)] 107) = W4 at HB5 c0 c1 c2 e0' e1' e2' ⊢
    clear e0 e1 e2
    go_quiet (fail)
    go_wp2
    refine bodyPost_ret (v := .tuple #[.pointer none, .bool false, .bool true]) (by simp [results, Tryd.results14, go_sem]) rfl ⟨below_drewN HB5.out _, .inr ⟨.inr (by rw [HC.out]; exact hp), rfl⟩⟩
end Go.Proofs.YtpfnmcgcpgcfjaaDoor
