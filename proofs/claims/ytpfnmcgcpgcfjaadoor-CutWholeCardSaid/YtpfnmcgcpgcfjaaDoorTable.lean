/- Contracts of classes.Table: Of, Kind; model.Table. -/
import Derived.Test.YtpfnmcgcpgcfjaaDoorSpans4
namespace Tess
open Go Go.RowKit
/-- The lists are right. -/
def RightD (d : Dat) : Prop := RightL d.letters ∧ RightL d.numbers ∧ RightL d.spaces
/-- A table in memory. -/
def IsTable (w : World) (t : Nat) (d : Dat) : Prop :=
  ∃ v1 v2 v3, w.cell? ⟨t, 0, none⟩ = some v1 ∧ w.cell? ⟨t, 1, none⟩ = some v2 ∧ w.cell? ⟨t, 2, none⟩ = some v3 ∧ SpansIn w v1 d.letters ∧ SpansIn w v2 d.numbers ∧ SpansIn w v3 d.spaces
theorem IsTable.below {w w' : World} {t : Nat} {d : Dat} (h : IsTable w t d) (hb : Below w.heap.size w w') : IsTable w' t d := by
  obtain ⟨v1, v2, v3, h1, h2, h3, h4, h5, h6⟩ := h
  exact ⟨v1, v2, v3, cell_below hb h1, cell_below hb h2, cell_below hb h3, h4.below hb, h5.below hb, h6.below hb⟩
end Tess
namespace Go.Proofs.YtpfnmcgcpgcfjaaDoor
open Go.RowKit Tess
set_option maxHeartbeats 2000000 in
set_option maxRecDepth 100000 in
theorem Table_Of (w : World) (t : Nat) (d : Dat) (r : Int) (hT : IsTable w t d) (hR : RightD d) :
   Calls Tryd.prog 62 #[.pointer (some ⟨t, 0, none⟩), .int .i32 r] w fun e w' => e = .returned (.int .i64 (kindOf d r : Nat)) ∧ Below w.heap.size w w' := by
  obtain ⟨v1, v2, v3, h1, h2, h3, s1, s2, s3⟩ := hT
  have S1 := Lib.hid s1
  have S2 := Lib.hid s2
  have S3 := Lib.hid s3
  have HR := Lib.hid hR
  clear s1 s2 s3 hR
  have i0 : ∀ w, (Instr.index 167 (.agg #[v1, v2, v3]) (.int .i64 0)).run Tryd.prog w = .ok v1 w := fun _ => by kernel_rfl
  have i1 : ∀ w, (Instr.index 167 (.agg #[v1, v2, v3]) (.int .i64 1)).run Tryd.prog w = .ok v2 w := fun _ => by kernel_rfl
  have i2 : ∀ w, (Instr.index 167 (.agg #[v1, v2, v3]) (.int .i64 2)).run Tryd.prog w = .ok v3 w := fun _ => by kernel_rfl
  go_enter Tryd.func62, Tryd.ntmps62
  go_wp2
  go_loopw [11] (fun s W => ∃ i : Nat, i ≤ 3 ∧ s = .int .i64 i ∧ ((0 < i → inL d.letters r = false) ∧ (1 < i → inL d.numbers r = false) ∧ (2 < i → inL d.spaces r = false)) ∧ Below w.heap.size w W) (fun s _ => 3 - (intOf s).toNat)
  case atStart => exact ⟨0, by omega, rfl, ⟨by omega, by omega, by omega⟩, Below.refl _ _⟩
  case round =>
    obtain ⟨i, hi, rfl, hj, hb⟩ := hrel
    have HJ := Lib.hid hj
    have HB := Lib.hid hb
    have hs := hb.size
    clear hj hb
    rcases (by omega : i = 0 ∨ i = 1 ∨ i = 2 ∨ i = 3) with rfl | rfl | rfl | rfl
    · go_wp2_with fail
      refine (spans_In _ v1 d.letters r (S1.out.below HB.out) HR.out.1).mono ?_
      rintro e w2 ⟨rfl, hb2⟩
      have HB2 := Lib.hid (below_then HB.out hs hb2)
      clear hb2
      cases hv : inL d.letters r
      · have HV := Lib.hid hv
        clear hv
        go_wp2
        go_roundw
        case rel => exact ⟨1, by omega, by go_num, ⟨fun _ => HV.out, by omega, by omega⟩, HB2.out⟩
        case measure => simp [intOf]
      · have HV := Lib.hid hv
        clear hv
        go_wp2
        go_ret
        rw [show kindOf d r = 1 from by unfold kindOf; rw [if_pos HV.out]]
        exact ⟨rfl, HB2.out⟩
    · go_wp2_with fail
      refine (spans_In _ v2 d.numbers r (S2.out.below HB.out) HR.out.2.1).mono ?_
      rintro e w2 ⟨rfl, hb2⟩
      have HB2 := Lib.hid (below_then HB.out hs hb2)
      clear hb2
      cases hv : inL d.numbers r
      · have HV := Lib.hid hv
        clear hv
        go_wp2
        go_roundw
        case rel => exact ⟨2, by omega, by go_num, ⟨fun _ => HJ.out.1 (by omega), fun _ => HV.out, by omega⟩, HB2.out⟩
        case measure => simp [intOf]
      · have HV := Lib.hid hv
        clear hv
        go_wp2
        go_ret
        rw [show kindOf d r = 2 from by unfold kindOf; rw [if_neg (by rw [HJ.out.1 (by omega)]; simp), if_pos HV.out]]
        exact ⟨rfl, HB2.out⟩
    · go_wp2_with fail
      refine (spans_In _ v3 d.spaces r (S3.out.below HB.out) HR.out.2.2).mono ?_
      rintro e w2 ⟨rfl, hb2⟩
      have HB2 := Lib.hid (below_then HB.out hs hb2)
      clear hb2
      cases hv : inL d.spaces r
      · have HV := Lib.hid hv
        clear hv
        go_wp2
        go_roundw
        case rel => exact ⟨3, by omega, by go_num, ⟨fun _ => HJ.out.1 (by omega), fun _ => HJ.out.2.1 (by omega), fun _ => HV.out⟩, HB2.out⟩
        case measure => simp [intOf]
      · have HV := Lib.hid hv
        clear hv
        go_wp2
        go_ret
        rw [show kindOf d r = 3 from by unfold kindOf; rw [if_neg (by rw [HJ.out.1 (by omega)]; simp), if_neg (by rw [HJ.out.2.1 (by omega)]; simp), if_pos HV.out]]
        exact ⟨rfl, HB2.out⟩
    · go_wp2
      go_ret
      rw [show kindOf d r = 4 from by unfold kindOf; rw [if_neg (by rw [HJ.out.1 (by omega)]; simp), if_neg (by rw [HJ.out.2.1 (by omega)]; simp), if_neg (by rw [HJ.out.2.2 (by omega)]; simp)]]
      exact ⟨rfl, HB.out⟩
/-- An item as a value: From, Bytes, Rune, Bad. -/
def itemV (a : Int) (x : It) : Value := .agg #[.int .i64 a, .int .i64 (x.n : Nat), .int .i32 (x.r : Nat), .bool x.bad]
set_option maxHeartbeats 1000000 in
theorem Table_Kind (w : World) (t : Nat) (d : Dat) (a : Int) (x : It) (hT : IsTable w t d) (hR : RightD d) :
   Calls Tryd.prog 20 #[.pointer (some ⟨t, 0, none⟩), .agg #[.int .i64 a, .int .i64 (x.n : Nat), .int .i32 (x.r : Nat), .bool x.bad]] w fun e w' => e = .returned (.int .i64 (kind d x : Nat)) ∧ Below w.heap.size w w' := by
  have HT := Lib.hid hT
  have HR := Lib.hid hR
  clear hT hR
  obtain ⟨n, r, bad⟩ := x
  cases bad
  · go_enter Tryd.func20, Tryd.ntmps20
    go_wp2_with fail
    have hb := below_alloc (Below.refl w.heap.size w) (Obj.cells #[.int .i64 a, .int .i64 (n : Nat), .int .i32 (r : Nat), .bool false] 43)
    refine (Table_Of _ t d r (HT.out.below hb) HR.out).mono ?_
    rintro e w2 ⟨rfl, hb2⟩
    have HB2 := Lib.hid (below_then hb (by first | omega | (simp; done) | (simp; omega)) hb2)
    clear hb hb2
    go_wp2
    go_ret
    exact ⟨rfl, HB2.out⟩
  · go_enter Tryd.func20, Tryd.ntmps20
    go_wp2
    go_ret
    refine ⟨rfl, ?_⟩
    (repeat (first | with_reducible exact Below.refl _ _ | assumption | refine Below.drew ?_ | refine below_drewN ?_ _ | refine Below.alloc ?_ (by first | omega | (simp; done) | (simp; omega)) _ | refine Below.setCell ?_ (by first | omega | (simp; done) | (simp; omega)) _))
end Go.Proofs.YtpfnmcgcpgcfjaaDoor
