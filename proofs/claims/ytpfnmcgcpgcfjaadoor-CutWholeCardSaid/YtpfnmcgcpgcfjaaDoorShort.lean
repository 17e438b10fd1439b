/- Contracts of cut.short, cut.sort. -/
import Derived.Test.YtpfnmcgcpgcfjaaDoorRun2
namespace Tess
open Go Go.RowKit
def shortB (p : Fin 7 → Bool) : Nat := if p 0 then 2 else if p 1 then 2 else if p 2 then 2 else if p 3 then 2 else if p 4 then 3 else if p 5 then 3 else if p 6 then 3 else 0
theorem short_B (l : List UInt8) : short l = shortB fun i => Lib.hasPrefix l (shorts[i]) := by
  show short l = if ([39, 115] : List UInt8).isPrefixOf l then 2 else if ([39, 116] : List UInt8).isPrefixOf l then 2 else if ([39, 109] : List UInt8).isPrefixOf l then 2 else if ([39, 100] : List UInt8).isPrefixOf l then 2 else if ([39, 114, 101] : List UInt8).isPrefixOf l then 3 else if ([39, 118, 101] : List UInt8).isPrefixOf l then 3 else if ([39, 108, 108] : List UInt8).isPrefixOf l then 3 else 0
  unfold short shorts
  simp only [List.find?]
  generalize ([39, 115] : List UInt8).isPrefixOf l = a0
  generalize ([39, 116] : List UInt8).isPrefixOf l = a1
  generalize ([39, 109] : List UInt8).isPrefixOf l = a2
  generalize ([39, 100] : List UInt8).isPrefixOf l = a3
  generalize ([39, 114, 101] : List UInt8).isPrefixOf l = a4
  generalize ([39, 118, 101] : List UInt8).isPrefixOf l = a5
  generalize ([39, 108, 108] : List UInt8).isPrefixOf l = a6
  cases a0 <;> cases a1 <;> cases a2 <;> cases a3 <;> cases a4 <;> cases a5 <;> cases a6 <;> rfl
end Tess
namespace Go.Proofs.YtpfnmcgcpgcfjaaDoor
open Go.RowKit Tess
set_option maxHeartbeats 4000000 in
set_option maxRecDepth 100000 in
theorem cut_short (w : World) (s : ByteArray) : Calls Tryd.prog 116 #[.string s] w fun e w' => e = .returned (.int .i64 (short s.data.toList : Nat)) ∧ Below w.heap.size w w' := by
  rw [short_B]
  have hp0 := fun w => Tryd.strings_HasPrefix s ⟨#[39, 115]⟩ w
  have hp1 := fun w => Tryd.strings_HasPrefix s ⟨#[39, 116]⟩ w
  have hp2 := fun w => Tryd.strings_HasPrefix s ⟨#[39, 109]⟩ w
  have hp3 := fun w => Tryd.strings_HasPrefix s ⟨#[39, 100]⟩ w
  have hp4 := fun w => Tryd.strings_HasPrefix s ⟨#[39, 114, 101]⟩ w
  have hp5 := fun w => Tryd.strings_HasPrefix s ⟨#[39, 118, 101]⟩ w
  have hp6 := fun w => Tryd.strings_HasPrefix s ⟨#[39, 108, 108]⟩ w
  obtain ⟨f, hf⟩ : ∃ f : Fin 7 → Bool, (fun i : Fin 7 => Lib.hasPrefix s.data.toList (shorts[i])) = f := ⟨_, rfl⟩
  rw [hf]
  have e0 : Lib.hasPrefix s.data.toList (ByteArray.mk #[39, 115]).data.toList = f 0 := by rw [← hf]; rfl
  rw [e0] at hp0
  have e1 : Lib.hasPrefix s.data.toList (ByteArray.mk #[39, 116]).data.toList = f 1 := by rw [← hf]; rfl
  rw [e1] at hp1
  have e2 : Lib.hasPrefix s.data.toList (ByteArray.mk #[39, 109]).data.toList = f 2 := by rw [← hf]; rfl
  rw [e2] at hp2
  have e3 : Lib.hasPrefix s.data.toList (ByteArray.mk #[39, 100]).data.toList = f 3 := by rw [← hf]; rfl
  rw [e3] at hp3
  have e4 : Lib.hasPrefix s.data.toList (ByteArray.mk #[39, 114, 101]).data.toList = f 4 := by rw [← hf]; rfl
  rw [e4] at hp4
  have e5 : Lib.hasPrefix s.data.toList (ByteArray.mk #[39, 118, 101]).data.toList = f 5 := by rw [← hf]; rfl
  rw [e5] at hp5
  have e6 : Lib.hasPrefix s.data.toList (ByteArray.mk #[39, 108, 108]).data.toList = f 6 := by rw [← hf]; rfl
  rw [e6] at hp6
  have HP0 := Lib.hid hp0
  have HP1 := Lib.hid hp1
  have HP2 := Lib.hid hp2
  have HP3 := Lib.hid hp3
  have HP4 := Lib.hid hp4
  have HP5 := Lib.hid hp5
  have HP6 := Lib.hid hp6
  clear hp0 e0 hp1 e1 hp2 e2 hp3 e3 hp4 e4 hp5 e5 hp6 e6 hf
  obtain ⟨p0, hp0⟩ : ∃ p, f 0 = p := ⟨_, rfl⟩
  obtain ⟨p1, hp1⟩ : ∃ p, f 1 = p := ⟨_, rfl⟩
  obtain ⟨p2, hp2⟩ : ∃ p, f 2 = p := ⟨_, rfl⟩
  obtain ⟨p3, hp3⟩ : ∃ p, f 3 = p := ⟨_, rfl⟩
  obtain ⟨p4, hp4⟩ : ∃ p, f 4 = p := ⟨_, rfl⟩
  obtain ⟨p5, hp5⟩ : ∃ p, f 5 = p := ⟨_, rfl⟩
  obtain ⟨p6, hp6⟩ : ∃ p, f 6 = p := ⟨_, rfl⟩
  have hsh : shortB f = if p0 then 2 else if p1 then 2 else if p2 then 2 else if p3 then 2 else if p4 then 3 else if p5 then 3 else if p6 then 3 else 0 := by unfold shortB; rw [hp0, hp1, hp2, hp3, hp4, hp5, hp6]
  obtain ⟨N, hN⟩ : ∃ N, shortB f = N := ⟨_, rfl⟩
  rw [hN] at hsh ⊢
  have HN := Lib.hid hsh
  have HE0 := Lib.hid hp0
  have HE1 := Lib.hid hp1
  have HE2 := Lib.hid hp2
  have HE3 := Lib.hid hp3
  have HE4 := Lib.hid hp4
  have HE5 := Lib.hid hp5
  have HE6 := Lib.hid hp6
  clear hsh hp0 hp1 hp2 hp3 hp4 hp5 hp6 hN
  go_enter Tryd.func116, Tryd.ntmps116
  go_wp2
  have HB := Lib.hid (by (repeat (first | with_reducible exact Below.refl _ _ | assumption | refine Below.drew ?_ | refine below_drewN ?_ _ | refine Below.alloc ?_ (by first | omega | (simp; done) | (simp; omega)) _ | refine Below.setCell ?_ (by first | omega | (simp; done) | (simp; omega)) _)) : Below w.heap.size w (w.alloc (Obj.cells #[.string ⟨#[39, 115]⟩, .string ⟨#[39, 116]⟩, .string ⟨#[39, 109]⟩, .string ⟨#[39, 100]⟩, .string ⟨#[39, 114, 101]⟩, .string ⟨#[39, 118, 101]⟩, .string ⟨#[39, 108, 108]⟩] 9)))
  have c0 : (w.alloc (Obj.cells #[.string ⟨#[39, 115]⟩, .string ⟨#[39, 116]⟩, .string ⟨#[39, 109]⟩, .string ⟨#[39, 100]⟩, .string ⟨#[39, 114, 101]⟩, .string ⟨#[39, 118, 101]⟩, .string ⟨#[39, 108, 108]⟩] 9)).cell? ⟨w.heap.size, 0, none⟩ = some (.string ⟨#[39, 115]⟩) := by go_simp
  have c1 : (w.alloc (Obj.cells #[.string ⟨#[39, 115]⟩, .string ⟨#[39, 116]⟩, .string ⟨#[39, 109]⟩, .string ⟨#[39, 100]⟩, .string ⟨#[39, 114, 101]⟩, .string ⟨#[39, 118, 101]⟩, .string ⟨#[39, 108, 108]⟩] 9)).cell? ⟨w.heap.size, 1, none⟩ = some (.string ⟨#[39, 116]⟩) := by go_simp
  have c2 : (w.alloc (Obj.cells #[.string ⟨#[39, 115]⟩, .string ⟨#[39, 116]⟩, .string ⟨#[39, 109]⟩, .string ⟨#[39, 100]⟩, .string ⟨#[39, 114, 101]⟩, .string ⟨#[39, 118, 101]⟩, .string ⟨#[39, 108, 108]⟩] 9)).cell? ⟨w.heap.size, 2, none⟩ = some (.string ⟨#[39, 109]⟩) := by go_simp
  have c3 : (w.alloc (Obj.cells #[.string ⟨#[39, 115]⟩, .string ⟨#[39, 116]⟩, .string ⟨#[39, 109]⟩, .string ⟨#[39, 100]⟩, .string ⟨#[39, 114, 101]⟩, .string ⟨#[39, 118, 101]⟩, .string ⟨#[39, 108, 108]⟩] 9)).cell? ⟨w.heap.size, 3, none⟩ = some (.string ⟨#[39, 100]⟩) := by go_simp
  have c4 : (w.alloc (Obj.cells #[.string ⟨#[39, 115]⟩, .string ⟨#[39, 116]⟩, .string ⟨#[39, 109]⟩, .string ⟨#[39, 100]⟩, .string ⟨#[39, 114, 101]⟩, .string ⟨#[39, 118, 101]⟩, .string ⟨#[39, 108, 108]⟩] 9)).cell? ⟨w.heap.size, 4, none⟩ = some (.string ⟨#[39, 114, 101]⟩) := by go_simp
  have c5 : (w.alloc (Obj.cells #[.string ⟨#[39, 115]⟩, .string ⟨#[39, 116]⟩, .string ⟨#[39, 109]⟩, .string ⟨#[39, 100]⟩, .string ⟨#[39, 114, 101]⟩, .string ⟨#[39, 118, 101]⟩, .string ⟨#[39, 108, 108]⟩] 9)).cell? ⟨w.heap.size, 5, none⟩ = some (.string ⟨#[39, 118, 101]⟩) := by go_simp
  have c6 : (w.alloc (Obj.cells #[.string ⟨#[39, 115]⟩, .string ⟨#[39, 116]⟩, .string ⟨#[39, 109]⟩, .string ⟨#[39, 100]⟩, .string ⟨#[39, 114, 101]⟩, .string ⟨#[39, 118, 101]⟩, .string ⟨#[39, 108, 108]⟩] 9)).cell? ⟨w.heap.size, 6, none⟩ = some (.string ⟨#[39, 108, 108]⟩) := by go_simp
  generalize w.alloc (Obj.cells #[.string ⟨#[39, 115]⟩, .string ⟨#[39, 116]⟩, .string ⟨#[39, 109]⟩, .string ⟨#[39, 100]⟩, .string ⟨#[39, 114, 101]⟩, .string ⟨#[39, 118, 101]⟩, .string ⟨#[39, 108, 108]⟩] 9) = W0 at HB c0 c1 c2 c3 c4 c5 c6 ⊢
  go_loop [7] (fun v => ∃ i : Nat, i ≤ 7 ∧ v = .int .i64 i ∧ (0 < i → p0 = false) ∧ (1 < i → p1 = false) ∧ (2 < i → p2 = false) ∧ (3 < i → p3 = false) ∧ (4 < i → p4 = false) ∧ (5 < i → p5 = false) ∧ (6 < i → p6 = false)) (fun v => 7 - (intOf v).toNat)
  case atStart => exact ⟨0, by omega, rfl, by omega, by omega, by omega, by omega, by omega, by omega, by omega⟩
  case round =>
    obtain ⟨i, hi, rfl, q0, q1, q2, q3, q4, q5, q6⟩ := hrel
    rcases (by omega : i = 0 ∨ i = 1 ∨ i = 2 ∨ i = 3 ∨ i = 4 ∨ i = 5 ∨ i = 6 ∨ i = 7) with rfl | rfl | rfl | rfl | rfl | rfl | rfl | rfl
    · go_wp2_with fail
      refine (HP0.out _).mono ?_
      rw [HE0.out]
      rintro e w' ⟨rfl, rfl⟩
      cases hp : p0 with
      | true =>
        go_wp2
        go_ret
        exact ⟨by rw [HN.out]; simp [hp], HB.out⟩
      | false =>
        go_wp2
        go_round
        case rel => exact ⟨1, by omega, by go_num, fun _ => hp, by omega, by omega, by omega, by omega, by omega, by omega⟩
        case measure => simp [intOf]
    · have z0 := q0 (by omega)
      go_wp2_with fail
      refine (HP1.out _).mono ?_
      rw [HE1.out]
      rintro e w' ⟨rfl, rfl⟩
      cases hp : p1 with
      | true =>
        go_wp2
        go_ret
        exact ⟨by rw [HN.out]; simp [hp, z0], HB.out⟩
      | false =>
        go_wp2
        go_round
        case rel => exact ⟨2, by omega, by go_num, fun _ => q0 (by omega), fun _ => hp, by omega, by omega, by omega, by omega, by omega⟩
        case measure => simp [intOf]
    · have z0 := q0 (by omega)
      have z1 := q1 (by omega)
      go_wp2_with fail
      refine (HP2.out _).mono ?_
      rw [HE2.out]
      rintro e w' ⟨rfl, rfl⟩
      cases hp : p2 with
      | true =>
        go_wp2
        go_ret
        exact ⟨by rw [HN.out]; simp [hp, z0, z1], HB.out⟩
      | false =>
        go_wp2
        go_round
        case rel => exact ⟨3, by omega, by go_num, fun _ => q0 (by omega), fun _ => q1 (by omega), fun _ => hp, by omega, by omega, by omega, by omega⟩
        case measure => simp [intOf]
    · have z0 := q0 (by omega)
      have z1 := q1 (by omega)
      have z2 := q2 (by omega)
      go_wp2_with fail
      refine (HP3.out _).mono ?_
      rw [HE3.out]
      rintro e w' ⟨rfl, rfl⟩
      cases hp : p3 with
      | true =>
        go_wp2
        go_ret
        exact ⟨by rw [HN.out]; simp [hp, z0, z1, z2], HB.out⟩
      | false =>
        go_wp2
        go_round
        case rel => exact ⟨4, by omega, by go_num, fun _ => q0 (by omega), fun _ => q1 (by omega), fun _ => q2 (by omega), fun _ => hp, by omega, by omega, by omega⟩
        case measure => simp [intOf]
    · have z0 := q0 (by omega)
      have z1 := q1 (by omega)
      have z2 := q2 (by omega)
      have z3 := q3 (by omega)
      go_wp2_with fail
      refine (HP4.out _).mono ?_
      rw [HE4.out]
      rintro e w' ⟨rfl, rfl⟩
      cases hp : p4 with
      | true =>
        go_wp2
        go_ret
        exact ⟨by rw [HN.out]; simp [hp, z0, z1, z2, z3], HB.out⟩
      | false =>
        go_wp2
        go_round
        case rel => exact ⟨5, by omega, by go_num, fun _ => q0 (by omega), fun _ => q1 (by omega), fun _ => q2 (by omega), fun _ => q3 (by omega), fun _ => hp, by omega, by omega⟩
        case measure => simp [intOf]
    · have z0 := q0 (by omega)
      have z1 := q1 (by omega)
      have z2 := q2 (by omega)
      have z3 := q3 (by omega)
      have z4 := q4 (by omega)
      go_wp2_with fail
      refine (HP5.out _).mono ?_
      rw [HE5.out]
      rintro e w' ⟨rfl, rfl⟩
      cases hp : p5 with
      | true =>
        go_wp2
        go_ret
        exact ⟨by rw [HN.out]; simp [hp, z0, z1, z2, z3, z4], HB.out⟩
      | false =>
        go_wp2
        go_round
        case rel => exact ⟨6, by omega, by go_num, fun _ => q0 (by omega), fun _ => q1 (by omega), fun _ => q2 (by omega), fun _ => q3 (by omega), fun _ => q4 (by omega), fun _ => hp, by omega⟩
        case measure => simp [intOf]
    · have z0 := q0 (by omega)
      have z1 := q1 (by omega)
      have z2 := q2 (by omega)
      have z3 := q3 (by omega)
      have z4 := q4 (by omega)
      have z5 := q5 (by omega)
      go_wp2_with fail
      refine (HP6.out _).mono ?_
      rw [HE6.out]
      rintro e w' ⟨rfl, rfl⟩
      cases hp : p6 with
      | true =>
        go_wp2
        go_ret
        exact ⟨by rw [HN.out]; simp [hp, z0, z1, z2, z3, z4, z5], HB.out⟩
      | false =>
        go_wp2
        go_round
        case rel => exact ⟨7, by omega, by go_num, fun _ => q0 (by omega), fun _ => q1 (by omega), fun _ => q2 (by omega), fun _ => q3 (by omega), fun _ => q4 (by omega), fun _ => q5 (by omega), fun _ => hp⟩
        case measure => simp [intOf]
    · have z0 := q0 (by omega)
      have z1 := q1 (by omega)
      have z2 := q2 (by omega)
      have z3 := q3 (by omega)
      have z4 := q4 (by omega)
      have z5 := q5 (by omega)
      have z6 := q6 (by omega)
      go_wp2
      go_ret
      exact ⟨by rw [HN.out]; simp [z0, z1, z2, z3, z4, z5, z6], HB.out⟩
set_option maxHeartbeats 1000000 in
theorem cut_sort (w : World) (k : Nat) (hk : k ≤ 100) : Calls Tryd.prog 118 #[.int .i64 k] w fun e w' => e = .returned (.int .i64 (sortOf k : Nat)) ∧ w = w' := by
  unfold sortOf
  by_cases h1 : k = 1
  · subst h1
    go_enter Tryd.func118, Tryd.ntmps118
    go_wp2
    go_ret
    exact ⟨rfl, rfl⟩
  · rw [if_neg h1]
    have e1 : ((k : Int) == 1) = false := by simp; omega
    by_cases h2 : k = 2
    · subst h2
      go_enter Tryd.func118, Tryd.ntmps118
      go_wp2
      go_ret
      exact ⟨rfl, rfl⟩
    · rw [if_neg h2]
      have e2 : ((k : Int) == 2) = false := by simp; omega
      go_enter Tryd.func118, Tryd.ntmps118
      go_wp2
      go_ret
      exact ⟨rfl, rfl⟩
end Go.Proofs.YtpfnmcgcpgcfjaaDoor
