/- Contract of model.copied. -/
import Derived.Test.YtpfnmcgcpgcfjaaDoorClone
import Derived.Deep.RegionHeld3
namespace Go.Proofs.YtpfnmcgcpgcfjaaDoor
open Go.RowKit Tess
set_option maxHeartbeats 4000000 in
set_option maxRecDepth 100000 in
theorem model_copied (w : World) (vw vm va vb vc : Value) (d : Dat) (hD : DataIn w vw vm va vb vc d) (hl : d.merges.length ≤ 4398046511104) :
    Calls Tryd.prog 83 #[.agg #[vw, vm, va, vb, vc]] w fun e w' => ∃ uw um ua ub uc, e = .returned (.agg #[uw, um, ua, ub, uc]) ∧ DataIn w' uw um ua ub uc d ∧ Below w.heap.size w w' := by
  have HD := Lib.hid hD
  clear hD
  go_enter Tryd.func83, Tryd.ntmps83
  go_wp2_with fail
  have hb0 : Below w.heap.size w ((w.alloc (Obj.cells #[vw, vm, va, vb, vc] 26)).alloc (Obj.cells #[.slice none 0 0, .slice none 0 0, .slice none 0 0, .slice none 0 0, .slice none 0 0] 26)).drew := by (repeat (first | with_reducible exact Below.refl _ _ | assumption | refine Below.drew ?_ | refine below_drewN ?_ _ | refine Below.alloc ?_ (by first | omega | (simp; done) | (simp; omega)) _ | refine Below.setCell ?_ (by first | omega | (simp; done) | (simp; omega)) _))
  have hd0 := HD.out.below hb0
  have hz0 : w.heap.size + 2 ≤ ((w.alloc (Obj.cells #[vw, vm, va, vb, vc] 26)).alloc (Obj.cells #[.slice none 0 0, .slice none 0 0, .slice none 0 0, .slice none 0 0, .slice none 0 0] 26)).drew.heap.size := by simp
  have hr0 : ∀ i, i < 5 → ((w.alloc (Obj.cells #[vw, vm, va, vb, vc] 26)).alloc (Obj.cells #[.slice none 0 0, .slice none 0 0, .slice none 0 0, .slice none 0 0, .slice none 0 0] 26)).drew.cell? ⟨w.heap.size + 1, i, none⟩ = some (.slice none 0 0) := by
    intro i hi
    rcases (by omega : i = 0 ∨ i = 1 ∨ i = 2 ∨ i = 3 ∨ i = 4) with rfl | rfl | rfl | rfl | rfl <;> go_simp
  have hf0 : ∀ i, ((w.alloc (Obj.cells #[vw, vm, va, vb, vc] 26)).alloc (Obj.cells #[.slice none 0 0, .slice none 0 0, .slice none 0 0, .slice none 0 0, .slice none 0 0] 26)).drew.frozen? ⟨w.heap.size + 1, i, none⟩ = false := by
    intro i
    go_simp
  have p0 : ((w.alloc (Obj.cells #[vw, vm, va, vb, vc] 26)).alloc (Obj.cells #[.slice none 0 0, .slice none 0 0, .slice none 0 0, .slice none 0 0, .slice none 0 0] 26)).drew.cell? ⟨w.heap.size, 0, none⟩ = some vw := by go_simp
  have p1 : ((w.alloc (Obj.cells #[vw, vm, va, vb, vc] 26)).alloc (Obj.cells #[.slice none 0 0, .slice none 0 0, .slice none 0 0, .slice none 0 0, .slice none 0 0] 26)).drew.cell? ⟨w.heap.size, 1, none⟩ = some vm := by go_simp
  have p2 : ((w.alloc (Obj.cells #[vw, vm, va, vb, vc] 26)).alloc (Obj.cells #[.slice none 0 0, .slice none 0 0, .slice none 0 0, .slice none 0 0, .slice none 0 0] 26)).drew.cell? ⟨w.heap.size, 2, none⟩ = some va := by go_simp
  have p3 : ((w.alloc (Obj.cells #[vw, vm, va, vb, vc] 26)).alloc (Obj.cells #[.slice none 0 0, .slice none 0 0, .slice none 0 0, .slice none 0 0, .slice none 0 0] 26)).drew.cell? ⟨w.heap.size, 3, none⟩ = some vb := by go_simp
  have p4 : ((w.alloc (Obj.cells #[vw, vm, va, vb, vc] 26)).alloc (Obj.cells #[.slice none 0 0, .slice none 0 0, .slice none 0 0, .slice none 0 0, .slice none 0 0] 26)).drew.cell? ⟨w.heap.size, 4, none⟩ = some vc := by go_simp
  have P0 := Lib.hid p0
  have P1 := Lib.hid p1
  have P2 := Lib.hid p2
  have P3 := Lib.hid p3
  have P4 := Lib.hid p4
  clear p0 p1 p2 p3 p4
  have HB0 := Lib.hid hb0
  have HD0 := Lib.hid hd0
  have HZ0 := Lib.hid hz0
  have HR0 := Lib.hid hr0
  have HF0 := Lib.hid hf0
  clear hb0 hd0 hz0 hr0 hf0
  go_region_held3 (fun w' => w'.cell? ⟨w.heap.size, 0, none⟩ = some vw ∧ w'.cell? ⟨w.heap.size, 1, none⟩ = some vm ∧ w'.cell? ⟨w.heap.size, 2, none⟩ = some va ∧ w'.cell? ⟨w.heap.size, 3, none⟩ = some vb ∧ w'.cell? ⟨w.heap.size, 4, none⟩ = some vc)
    (first | go_keep)
    (first
      | (go_at_call 108; refine (clone_strs _ vw d.words HD0.out.words).mono ?_; rintro e w1 ⟨uw, rfl, hs1, hf1, hb1⟩; obtain ⟨uA1, uc1, rfl⟩ := hs1.form; have HS1 := Lib.hid hs1; have HB1 := Lib.hid hb1; have HD1 := Lib.hid (HD0.out.below hb1); have p0 := cell_below hb1 P0.out; have P0 := Lib.hid p0; have p1 := cell_below hb1 P1.out; have P1 := Lib.hid p1; have p2 := cell_below hb1 P2.out; have P2 := Lib.hid p2; have p3 := cell_below hb1 P3.out; have P3 := Lib.hid p3; have p4 := cell_below hb1 P4.out; have P4 := Lib.hid p4; clear hs1 hb1)
      | (go_at_call 109; refine (clone_merges _ vm d.merges HD1.out.merges hl).mono ?_; rintro e w2 ⟨um, rfl, hs2, hf2, hb2⟩; obtain ⟨uA2, uc2, rfl⟩ := hs2.form; have HS2 := Lib.hid hs2; have HB2 := Lib.hid hb2; have HD2 := Lib.hid (HD1.out.below hb2); clear p0 p1 p2 p3 p4; have p0 := cell_below hb2 P0.out; have P0 := Lib.hid p0; have p1 := cell_below hb2 P1.out; have P1 := Lib.hid p1; have p2 := cell_below hb2 P2.out; have P2 := Lib.hid p2; have p3 := cell_below hb2 P3.out; have P3 := Lib.hid p3; have p4 := cell_below hb2 P4.out; have P4 := Lib.hid p4; clear hs2 hb2)
      | (go_at_call_of 105 (va); refine (clone_spans _ va d.letters HD2.out.letters).mono ?_; rintro e w3 ⟨ua, rfl, hs3, hf3, hb3⟩; obtain ⟨uA3, uc3, rfl⟩ := hs3.form; have HS3 := Lib.hid hs3; have HB3 := Lib.hid hb3; have HD3 := Lib.hid (HD2.out.below hb3); clear p0 p1 p2 p3 p4; have p0 := cell_below hb3 P0.out; have P0 := Lib.hid p0; have p1 := cell_below hb3 P1.out; have P1 := Lib.hid p1; have p2 := cell_below hb3 P2.out; have P2 := Lib.hid p2; have p3 := cell_below hb3 P3.out; have P3 := Lib.hid p3; have p4 := cell_below hb3 P4.out; have P4 := Lib.hid p4; clear hs3 hb3)
      | (go_at_call_of 105 (vb); refine (clone_spans _ vb d.numbers HD3.out.numbers).mono ?_; rintro e w4 ⟨ub, rfl, hs4, hf4, hb4⟩; obtain ⟨uA4, uc4, rfl⟩ := hs4.form; have HS4 := Lib.hid hs4; have HB4 := Lib.hid hb4; have HD4 := Lib.hid (HD3.out.below hb4); clear p0 p1 p2 p3 p4; have p0 := cell_below hb4 P0.out; have P0 := Lib.hid p0; have p1 := cell_below hb4 P1.out; have P1 := Lib.hid p1; have p2 := cell_below hb4 P2.out; have P2 := Lib.hid p2; have p3 := cell_below hb4 P3.out; have P3 := Lib.hid p3; have p4 := cell_below hb4 P4.out; have P4 := Lib.hid p4; clear hs4 hb4)
      | (go_at_call_of 105 (vc); refine (clone_spans _ vc d.spaces HD4.out.spaces).mono ?_; rintro e w5 ⟨uc, rfl, hs5, hf5, hb5⟩; obtain ⟨uA5, uc5, rfl⟩ := hs5.form; have HS5 := Lib.hid hs5; have HB5 := Lib.hid hb5; clear p0 p1 p2 p3 p4; have p0 := cell_below hb5 P0.out; have P0 := Lib.hid p0; have p1 := cell_below hb5 P1.out; have P1 := Lib.hid p1; have p2 := cell_below hb5 P2.out; have P2 := Lib.hid p2; have p3 := cell_below hb5 P3.out; have P3 := Lib.hid p3; have p4 := cell_below hb5 P4.out; have P4 := Lib.hid p4; clear hs5 hb5; have hbz := ((((HB1.out.trans (HB2.out.mono HB1.out.size)).trans (HB3.out.mono ((HB1.out.trans (HB2.out.mono HB1.out.size)).size))).trans (HB4.out.mono (Nat.le_trans HB1.out.size (Nat.le_trans HB2.out.size HB3.out.size)))).trans (HB5.out.mono (Nat.le_trans HB1.out.size (Nat.le_trans HB2.out.size (Nat.le_trans HB3.out.size HB4.out.size))))); have r0 := cell_below hbz (HR0.out 0 (by omega)); have r1 := cell_below hbz (HR0.out 1 (by omega)); have r2 := cell_below hbz (HR0.out 2 (by omega)); have r3 := cell_below hbz (HR0.out 3 (by omega)); have r4 := cell_below hbz (HR0.out 4 (by omega)); have fz := fun i => (hbz.frozen (p := ⟨w.heap.size + 1, i, none⟩) (Nat.lt_of_lt_of_le (Nat.lt_succ_self _) HZ0.out)).trans (HF0.out i); have f0 := fz 0; have f1 := fz 1; have f2 := fz 2; have f3 := fz 3; have f4 := fz 4; have HBZ := Lib.hid hbz; clear hbz fz))
  go_wp2
  have z1 := HB1.out.size
  have z2 := HB2.out.size
  have z3 := HB3.out.size
  have z4 := HB4.out.size
  have z5 := HB5.out.size
  refine bodyPost_ret (v := .agg #[.slice uA1 d.words.length uc1, .slice uA2 d.merges.length uc2, .slice uA3 d.letters.length uc3, .slice uA4 d.numbers.length uc4, .slice uA5 d.spaces.length uc5]) (by simp [results, Tryd.results83, go_sem, r0, r1, r2, r3, r4]) rfl ⟨_, _, _, _, _, rfl, ?_, ?_⟩
  · have hz0 := HZ0.out
    have c3 := HB4.out.trans (HB5.out.mono z4)
    have c2 := HB3.out.trans (c3.mono z3)
    have c1 := HB2.out.trans (c2.mono z2)
    have n1 : ∀ b, (Value.slice uA1 d.words.length uc1).ownBlock = some b → b ≠ w.heap.size + 1 := fun b hb => by have := hf1 b hb; omega
    have n2 : ∀ b, (Value.slice uA2 d.merges.length uc2).ownBlock = some b → b ≠ w.heap.size + 1 := fun b hb => by have := hf2 b hb; omega
    have n3 : ∀ b, (Value.slice uA3 d.letters.length uc3).ownBlock = some b → b ≠ w.heap.size + 1 := fun b hb => by have := hf3 b hb; omega
    have n4 : ∀ b, (Value.slice uA4 d.numbers.length uc4).ownBlock = some b → b ≠ w.heap.size + 1 := fun b hb => by have := hf4 b hb; omega
    have n5 : ∀ b, (Value.slice uA5 d.spaces.length uc5).ownBlock = some b → b ≠ w.heap.size + 1 := fun b hb => by have := hf5 b hb; omega
    exact ⟨(HS1.out.below c1).same (SameAt.setCell (SameAt.setCell (SameAt.setCell (SameAt.setCell (SameAt.setCell (SameAt.refl _ _) _ _ n1) _ _ n1) _ _ n1) _ _ n1) _ _ n1), (HS2.out.below c2).same (SameAt.setCell (SameAt.setCell (SameAt.setCell (SameAt.setCell (SameAt.setCell (SameAt.refl _ _) _ _ n2) _ _ n2) _ _ n2) _ _ n2) _ _ n2), (HS3.out.below c3).same (SameAt.setCell (SameAt.setCell (SameAt.setCell (SameAt.setCell (SameAt.setCell (SameAt.refl _ _) _ _ n3) _ _ n3) _ _ n3) _ _ n3) _ _ n3), (HS4.out.below HB5.out).same (SameAt.setCell (SameAt.setCell (SameAt.setCell (SameAt.setCell (SameAt.setCell (SameAt.refl _ _) _ _ n4) _ _ n4) _ _ n4) _ _ n4) _ _ n4), HS5.out.same (SameAt.setCell (SameAt.setCell (SameAt.setCell (SameAt.setCell (SameAt.setCell (SameAt.refl _ _) _ _ n5) _ _ n5) _ _ n5) _ _ n5) _ _ n5)⟩
  · have hz := HZ0.out
    have hb := HB0.out
    have hbw := below_then hb (by omega) HBZ.out
    (repeat (first | with_reducible exact Below.refl _ _ | assumption | refine Below.drew ?_ | refine below_drewN ?_ _ | refine Below.alloc ?_ (by first | omega | (simp; done) | (simp; omega)) _ | refine Below.setCell ?_ (by first | omega | (simp; done) | (simp; omega)) _))
end Go.Proofs.YtpfnmcgcpgcfjaaDoor
