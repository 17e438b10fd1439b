/- Contracts of package spans: Right. -/
import Derived.Test.YtpfnmcgcpgcfjaaDoorSpans
namespace Go.Proofs.YtpfnmcgcpgcfjaaDoor
open Go.RowKit Tess
theorem badAt_14 {l : Sp} {i : Nat} (h : isRune (loAt l i) = false ∨ isRune (hiAt l i) = false) : badAt l i = 14 := by
  unfold badAt; rw [if_pos]; rcases h with h | h <;> simp [h]
theorem badAt_15 {l : Sp} {i : Nat} (h1 : isRune (loAt l i) = true) (h2 : isRune (hiAt l i) = true) (h : hiAt l i < loAt l i ∨ (0 < i ∧ loAt l i ≤ hiAt l (i - 1))) : badAt l i = 15 := by
  unfold badAt; rw [if_neg (by simp [h1, h2]), if_pos h]
theorem badAt_0 {l : Sp} {i : Nat} (h1 : isRune (loAt l i) = true) (h2 : isRune (hiAt l i) = true) (h : ¬ (hiAt l i < loAt l i ∨ (0 < i ∧ loAt l i ≤ hiAt l (i - 1)))) : badAt l i = 0 := by
  unfold badAt; rw [if_neg (by simp [h1, h2]), if_neg h]
theorem rightL_at {l : Sp} {i b : Nat} (hi : i < l.length) (hb : badAt l i = b) (h0 : b ≠ 0) (h : ∀ j, j < i → badAt l j = 0) : (((rightL l).1 : Nat) : Int) = i ∧ (((rightL l).2 : Nat) : Int) = b := by
  rw [rightL_bad hi (by omega) h]; simp [hb]
set_option maxHeartbeats 2000000 in
set_option maxRecDepth 100000 in
theorem spans_Right (w : World) (v : Value) (l : Sp) (hA : SpansIn w v l) :
   Calls Tryd.prog 106 #[v] w fun e w' => e = .returned (.tuple #[.int .i64 ((rightL l).1 : Nat), .int .i64 ((rightL l).2 : Nat)]) ∧ Below w.heap.size w w' := by
  obtain ⟨A, c, rfl⟩ := hA.form
  have hlen := hA.1
  have HA := Lib.hid hA
  clear hA
  have V := Tryd.utf8_ValidRune
  simp only [validRune_eq] at V
  have HV := Lib.hid V
  clear V
  go_enter Tryd.func106, Tryd.ntmps106
  go_wp2
  go_loopw [8] (fun s W => ∃ i : Nat, i ≤ l.length ∧ s = .int .i64 i ∧ (∀ j, j < i → badAt l j = 0) ∧ Below w.heap.size w W) (fun s _ => l.length - (intOf s).toNat)
  case atStart => exact ⟨0, Nat.zero_le _, rfl, by omega, Below.refl _ _⟩
  case round =>
    obtain ⟨i, hi, rfl, hj, hb⟩ := hrel
    have HJ := Lib.hid hj
    have HB := Lib.hid hb
    clear hj hb
    by_cases hlt : i < l.length
    · obtain ⟨b, off, rfl, hc1, hc2⟩ := (HA.out.below HB.out).at_ i hlt
      rw [show (l.getD i (0,0)).1 = loAt l i from rfl] at hc1
      rw [show (l.getD i (0,0)).2 = hiAt l i from rfl] at hc2
      obtain ⟨lo, hlo⟩ : ∃ x, x = loAt l i := ⟨_, rfl⟩
      obtain ⟨hi', hhi⟩ : ∃ x, x = hiAt l i := ⟨_, rfl⟩
      rw [← hlo] at hc1
      rw [← hhi] at hc2
      have HLO := Lib.hid hlo
      have HHI := Lib.hid hhi
      clear hlo hhi
      go_wp2_with fail
      refine (HV.out lo _).mono ?_
      rintro e w2 ⟨rfl, rfl⟩
      cases hv : isRune lo
      · have HN := Lib.hid hv
        clear hv
        go_wp2
        go_ret2
        obtain ⟨e1, e2⟩ := rightL_at hlt (badAt_14 (.inl (HLO.out ▸ HN.out))) (by simp) HJ.out
        rw [e1, e2]
        exact ⟨rfl, HB.out.alloc HB.out.size _⟩
      · have HN := Lib.hid hv
        clear hv
        go_wp2_with fail
        refine (HV.out hi' _).mono ?_
        rintro e w2 ⟨rfl, rfl⟩
        have hBB := HB.out.alloc HB.out.size (Obj.cells #[Value.int .i32 lo, Value.int .i32 hi'] 135)
        have HBB := Lib.hid hBB
        clear hBB
        cases hv2 : isRune hi'
        · have HN2 := Lib.hid hv2
          clear hv2
          go_wp2
          go_ret2
          obtain ⟨e1, e2⟩ := rightL_at hlt (badAt_14 (.inr (HHI.out ▸ HN2.out))) (by simp) HJ.out
          rw [e1, e2]
          exact ⟨rfl, HBB.out⟩
        · have HN2 := Lib.hid hv2
          clear hv2
          by_cases h3 : hi' < lo
          · have hd : decide (hi' < lo) = true := by simpa using h3
            go_wp2
            go_quiet (fail)
            go_wp2
            go_ret2
            obtain ⟨e1, e2⟩ := rightL_at hlt (badAt_15 (HLO.out ▸ HN.out) (HHI.out ▸ HN2.out) (.inl (by rw [← HLO.out, ← HHI.out]; exact h3))) (by simp) HJ.out
            rw [e1, e2]
            exact ⟨rfl, below_drewN HBB.out _⟩
          · have hd : decide (hi' < lo) = false := by simpa using h3
            by_cases h0 : i = 0
            · subst h0
              go_wp2
              go_quiet (fail)
              go_wp2
              go_roundw
              case rel =>
                refine ⟨1, by omega, rfl, fun j hj => ?_, below_drewN HBB.out _⟩
                obtain rfl : j = 0 := by omega
                exact badAt_0 (HLO.out ▸ HN.out) (HHI.out ▸ HN2.out) (by rw [← HLO.out, ← HHI.out]; omega)
              case measure => simp [intOf]; omega
            · obtain ⟨b', off', e, _, hc3⟩ := (HA.out.below HB.out).at_ (i - 1) (by omega)
              cases e
              rw [show (l.getD (i - 1) (0,0)).2 = hiAt l (i - 1) from rfl] at hc3
              obtain ⟨hp, hhp⟩ : ∃ x, x = hiAt l (i - 1) := ⟨_, rfl⟩
              rw [← hhp] at hc3
              have HHP := Lib.hid hhp
              clear hhp
              have hd2 : decide (0 < i) = true := by simp; omega
              have hs2 : (0 : Int) ≤ (i : Int) - 1 := by omega
              have hs3 : ((i : Int) - 1).toNat = i - 1 := by omega
              have hs4 : (i : Int) - 1 < (l.length : Int) := by omega
              have hs1 : IntKind.i64.wrap ((i : Int) - 1) = (i : Int) - 1 := Go.IntWalk.i64_in _ (by omega)
              have hbl : b < wr.heap.size := World.block_lt_of_cell? _ _ hc3
              have hs5 : (1 : Int) ≤ (i : Int) := by omega
              have hs6 : 1 ≤ i := by omega
              have hs7 : 0 < i := by omega
              have hs8 : (i : Int) ≤ (l.length : Int) := by omega
              have HS1 := Lib.hid hs1
              clear hs1
              by_cases h4 : lo ≤ hp
              · have hd3 : decide (lo ≤ hp) = true := by simpa using h4
                go_wp2
                have hs1 := HS1.out
                go_quiet (fail)
                clear hs1
                go_wp2
                go_ret2
                obtain ⟨e1, e2⟩ := rightL_at hlt (badAt_15 (HLO.out ▸ HN.out) (HHI.out ▸ HN2.out) (.inr ⟨by omega, by rw [← HLO.out, ← HHP.out]; exact h4⟩)) (by simp) HJ.out
                rw [e1, e2]
                exact ⟨rfl, below_drewN HBB.out _⟩
              · have hd3 : decide (lo ≤ hp) = false := by simpa using h4
                go_wp2
                have hs1 := HS1.out
                go_quiet (fail)
                clear hs1
                go_wp2
                go_roundw
                case rel =>
                  refine ⟨i + 1, by omega, by go_num, fun j hj => ?_, below_drewN HBB.out _⟩
                  by_cases e : j = i
                  · subst e
                    exact badAt_0 (HLO.out ▸ HN.out) (HHI.out ▸ HN2.out) (by rw [← HLO.out, ← HHI.out, ← HHP.out]; omega)
                  · exact HJ.out j (by omega)
                case measure => simp [intOf]; omega
    · go_wp2
      go_ret2
      rw [rightL_good fun j hj => HJ.out j (by omega)]
      exact ⟨rfl, HB.out⟩
end Go.Proofs.YtpfnmcgcpgcfjaaDoor
