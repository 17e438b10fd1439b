/- Contracts of the reference's chapter 3: Rune, Right, In, Meet. -/
import Derived.Test.YtpfnmcgcpgcfjaaDoorSpans2
namespace Go.Proofs.YtpfnmcgcpgcfjaaDoor
open Go.RowKit Tess
set_option maxHeartbeats 1000000 in
theorem ref3_Rune (r : Int) (w : World) :
   Calls Tryd.prog 132 #[.int .i32 r] w fun e w' => e = .returned (.bool (isRune r)) ∧ w = w' := by
  by_cases h0 : 0 ≤ r
  · by_cases h1 : r ≤ 1114111
    · by_cases h2 : r < 55296
      · rw [show isRune r = true from by unfold isRune; simp; omega]
        go_enter Tryd.func132, Tryd.ntmps132
        go_wp2
        go_ret
        exact ⟨rfl, rfl⟩
      · by_cases h3 : 57343 < r
        · rw [show isRune r = true from by unfold isRune; simp; omega]
          go_enter Tryd.func132, Tryd.ntmps132
          go_wp2
          go_ret
          exact ⟨rfl, rfl⟩
        · rw [show isRune r = false from by unfold isRune; simp; omega]
          go_enter Tryd.func132, Tryd.ntmps132
          go_wp2
          go_ret
          exact ⟨rfl, rfl⟩
    · rw [show isRune r = false from by unfold isRune; simp; omega]
      go_enter Tryd.func132, Tryd.ntmps132
      go_wp2
      go_ret
      exact ⟨rfl, rfl⟩
  · rw [show isRune r = false from by unfold isRune; simp; omega]
    go_enter Tryd.func132, Tryd.ntmps132
    go_wp2
    go_ret
    exact ⟨rfl, rfl⟩
set_option maxHeartbeats 2000000 in
set_option maxRecDepth 100000 in
theorem ref3_Right (w : World) (v : Value) (l : Sp) (hA : SpansIn w v l) :
   Calls Tryd.prog 111 #[v] w fun e w' => e = .returned (.tuple #[.int .i64 ((rightL l).1 : Nat), .int .i64 ((rightL l).2 : Nat)]) ∧ Below w.heap.size w w' := by
  obtain ⟨A, c, rfl⟩ := hA.form
  have hlen := hA.1
  have HA := Lib.hid hA
  clear hA
  go_enter Tryd.func111, Tryd.ntmps111
  go_wp2
  go_loopw [4] (fun s W => ∃ i : Nat, i ≤ l.length ∧ s = .int .i64 i ∧ (∀ j, j < i → badAt l j = 0) ∧ Below w.heap.size w W) (fun s _ => l.length - (intOf s).toNat)
  case atStart => exact ⟨0, Nat.zero_le _, rfl, by omega, Below.refl _ _⟩
  case round =>
    obtain ⟨i, hi, rfl, hj, hb⟩ := hrel
    have HJ := Lib.hid hj
    have HB := Lib.hid hb
    clear hj hb
    by_cases hlt : i < l.length
    · obtain ⟨b, off, rfl, hc1, hc2⟩ := (HA.out.below HB.out).at_ i hlt
      rw [show (l.getD i (0,0)).1 = loAt l i from rfl] at hc1
      rw [show (l.getD i (0,0)).2 = hiAt l i from rfl] at hc2
      obtain ⟨lo, hlo⟩ : ∃ x, x = loAt l i := ⟨_, rfl⟩
      obtain ⟨hi', hhi⟩ : ∃ x, x = hiAt l i := ⟨_, rfl⟩
      rw [← hlo] at hc1
      rw [← hhi] at hc2
      have HLO := Lib.hid hlo
      have HHI := Lib.hid hhi
      clear hlo hhi
      go_wp2_with fail
      refine (ref3_Rune lo _).mono ?_
      rintro e w2 ⟨rfl, rfl⟩
      cases hv : isRune lo
      · have HN := Lib.hid hv
        clear hv
        go_wp2
        go_ret2
        obtain ⟨e1, e2⟩ := rightL_at hlt (badAt_14 (.inl (HLO.out ▸ HN.out))) (by simp) HJ.out
        rw [e1, e2]
        exact ⟨rfl, HB.out⟩
      · have HN := Lib.hid hv
        clear hv
        go_wp2_with fail
        refine (ref3_Rune hi' _).mono ?_
        rintro e w2 ⟨rfl, rfl⟩
        cases hv2 : isRune hi'
        · have HN2 := Lib.hid hv2
          clear hv2
          go_wp2
          go_ret2
          obtain ⟨e1, e2⟩ := rightL_at hlt (badAt_14 (.inr (HHI.out ▸ HN2.out))) (by simp) HJ.out
          rw [e1, e2]
          exact ⟨rfl, HB.out⟩
        · have HN2 := Lib.hid hv2
          clear hv2
          by_cases h3 : hi' < lo
          · have hd : decide (hi' < lo) = true := by simpa using h3
            go_wp2
            go_quiet (fail)
            go_wp2
            go_ret2
            obtain ⟨e1, e2⟩ := rightL_at hlt (badAt_15 (HLO.out ▸ HN.out) (HHI.out ▸ HN2.out) (.inl (by rw [← HLO.out, ← HHI.out]; exact h3))) (by simp) HJ.out
            rw [e1, e2]
            exact ⟨rfl, below_drewN HB.out _⟩
          · have hd : decide (hi' < lo) = false := by simpa using h3
            by_cases h0 : i = 0
            · subst h0
              have hc1' : wr.cell? ⟨b, off, none⟩ = some (.int .i32 lo) := by simpa using hc1
              have hc2' : wr.cell? ⟨b, off + 1, none⟩ = some (.int .i32 hi') := by simpa using hc2
              go_wp2
              go_quiet (fail)
              go_wp2
              go_roundw
              case rel =>
                refine ⟨1, by omega, rfl, fun j hj => ?_, below_drewN HB.out _⟩
                obtain rfl : j = 0 := by omega
                exact badAt_0 (HLO.out ▸ HN.out) (HHI.out ▸ HN2.out) (by rw [← HLO.out, ← HHI.out]; omega)
              case measure => simp [intOf]; omega
            · obtain ⟨b', off', e, _, hc3⟩ := (HA.out.below HB.out).at_ (i - 1) (by omega)
              cases e
              rw [show (l.getD (i - 1) (0,0)).2 = hiAt l (i - 1) from rfl] at hc3
              obtain ⟨hp, hhp⟩ : ∃ x, x = hiAt l (i - 1) := ⟨_, rfl⟩
              rw [← hhp] at hc3
              have HHP := Lib.hid hhp
              clear hhp
              have hd2 : decide (0 < i) = true := by simp; omega
              have hs2 : (0 : Int) ≤ (i : Int) - 1 := by omega
              have hs3 : ((i : Int) - 1).toNat = i - 1 := by omega
              have hs4 : (i : Int) - 1 < (l.length : Int) := by omega
              have hs1 : IntKind.i64.wrap ((i : Int) - 1) = (i : Int) - 1 := Go.IntWalk.i64_in _ (by omega)
              have hs5 : (1 : Int) ≤ (i : Int) := by omega
              have hs6 : 1 ≤ i := by omega
              have hs7 : 0 < i := by omega
              have hs8 : (i : Int) ≤ (l.length : Int) := by omega
              have HS1 := Lib.hid hs1
              clear hs1
              by_cases h4 : lo ≤ hp
              · have hd3 : decide (lo ≤ hp) = true := by simpa using h4
                go_wp2
                have hs1 := HS1.out
                go_quiet (fail)
                clear hs1
                go_wp2
                go_ret2
                obtain ⟨e1, e2⟩ := rightL_at hlt (badAt_15 (HLO.out ▸ HN.out) (HHI.out ▸ HN2.out) (.inr ⟨by omega, by rw [← HLO.out, ← HHP.out]; exact h4⟩)) (by simp) HJ.out
                rw [e1, e2]
                exact ⟨rfl, below_drewN HB.out _⟩
              · have hd3 : decide (lo ≤ hp) = false := by simpa using h4
                go_wp2
                have hs1 := HS1.out
                go_quiet (fail)
                clear hs1
                go_wp2
                go_roundw
                case rel =>
                  refine ⟨i + 1, by omega, by go_num, fun j hj => ?_, below_drewN HB.out _⟩
                  by_cases e : j = i
                  · subst e
                    exact badAt_0 (HLO.out ▸ HN.out) (HHI.out ▸ HN2.out) (by rw [← HLO.out, ← HHI.out, ← HHP.out]; omega)
                  · exact HJ.out j (by omega)
                case measure => simp [intOf]; omega
    · go_wp2
      go_ret2
      rw [rightL_good fun j hj => HJ.out j (by omega)]
      exact ⟨rfl, HB.out⟩
set_option maxHeartbeats 2000000 in
set_option maxRecDepth 100000 in
theorem ref3_In (w : World) (v : Value) (l : Sp) (r : Int) (hA : SpansIn w v l) :
   Calls Tryd.prog 113 #[v, .int .i32 r] w fun e w' => e = .returned (.bool (inL l r)) ∧ w = w' := by
  obtain ⟨A, c, rfl⟩ := hA.form
  have hlen := hA.1
  have HA := Lib.hid hA
  clear hA
  go_enter Tryd.func113, Tryd.ntmps113
  go_wp2
  go_loop [5] (fun s => ∃ i : Nat, i ≤ l.length ∧ s = .int .i64 i ∧ (∀ j, j < i → ¬ (loAt l j ≤ r ∧ r ≤ hiAt l j))) (fun s => l.length - (intOf s).toNat)
  case atStart => exact ⟨0, Nat.zero_le _, rfl, by omega⟩
  case round =>
    obtain ⟨i, hi, rfl, hj⟩ := hrel
    have HJ := Lib.hid hj
    clear hj
    by_cases hlt : i < l.length
    · obtain ⟨b, off, rfl, hc1, hc2⟩ := HA.out.at_ i hlt
      rw [show (l.getD i (0,0)).1 = loAt l i from rfl] at hc1
      rw [show (l.getD i (0,0)).2 = hiAt l i from rfl] at hc2
      obtain ⟨lo, hlo⟩ : ∃ x, x = loAt l i := ⟨_, rfl⟩
      obtain ⟨hi', hhi⟩ : ∃ x, x = hiAt l i := ⟨_, rfl⟩
      rw [← hlo] at hc1
      rw [← hhi] at hc2
      have HLO := Lib.hid hlo
      have HHI := Lib.hid hhi
      clear hlo hhi
      have hnext : ¬ (lo ≤ r ∧ r ≤ hi') → ∀ j, j < i + 1 → ¬ (loAt l j ≤ r ∧ r ≤ hiAt l j) := by
        intro h j hj
        by_cases e : j = i
        · subst e; rw [← HLO.out, ← HHI.out]; exact h
        · exact HJ.out j (by omega)
      have HNEXT := Lib.hid hnext
      clear hnext
      by_cases h1 : lo ≤ r
      · by_cases h2 : r ≤ hi'
        · go_wp2_with (go_at_call 132; refine (ref3_Rune r _).mono ?_; rintro e w' ⟨rfl, rfl⟩)
          go_ret
          refine ⟨?_, rfl⟩
          rw [Bool.eq_iff_iff.2 ((inL_iff l r).trans (and_iff_right ⟨i, hlt, by rw [← HLO.out, ← HHI.out]; exact ⟨h1, h2⟩⟩))]
          rfl
        · go_wp2
          go_round
          case rel => exact ⟨i + 1, by omega, by go_num, HNEXT.out (by omega)⟩
          case measure => simp [intOf]; omega
      · go_wp2
        go_round
        case rel => exact ⟨i + 1, by omega, by go_num, HNEXT.out (by omega)⟩
        case measure => simp [intOf]; omega
    · go_wp2
      go_ret
      refine ⟨?_, rfl⟩
      have : inL l r = false := by
        rw [Bool.eq_false_iff]
        intro h
        obtain ⟨⟨k, hk, h⟩, _⟩ := (inL_iff l r).1 h
        exact HJ.out k (by omega) h
      rw [this]
      rfl
set_option maxHeartbeats 4000000 in
set_option maxRecDepth 100000 in
theorem ref3_Meet (w : World) (v v' : Value) (l m : Sp) (hA : SpansIn w v l) (hM : SpansIn w v' m) (hR : RightL l) (hR' : RightL m) :
   Calls Tryd.prog 112 #[v, v'] w fun e w' => e = .returned (.tuple #[.int .i64 (((meetL l m).getD 0 : Nat) : Int), .bool (meetL l m).isSome]) ∧ w = w' := by
  obtain ⟨A, c, rfl⟩ := hA.form
  obtain ⟨A', c', rfl⟩ := hM.form
  have hlen := hA.1
  have hlen' := hM.1
  have HA := Lib.hid hA
  have HM := Lib.hid hM
  have HR := Lib.hid hR
  have HR' := Lib.hid hR'
  clear hA hM hR hR'
  go_enter Tryd.func112, Tryd.ntmps112
  go_wp2
  go_loop [6, 7, 8, 9] (fun s _ _ _ => ∃ i : Nat, i ≤ l.length ∧ s = .int .i64 i ∧ (∀ j, j < i → meetAt l m j = false)) (fun s _ _ _ => l.length - (intOf s).toNat)
  case atStart => exact ⟨0, Nat.zero_le _, rfl, by omega⟩
  case round =>
    obtain ⟨i, hi, rfl, hj⟩ := hrel
    have HJ := Lib.hid hj
    clear hj
    by_cases hlt : i < l.length
    · obtain ⟨b, off, rfl, hc1, hc2⟩ := HA.out.at_ i hlt
      rw [show (l.getD i (0,0)).1 = loAt l i from rfl] at hc1
      rw [show (l.getD i (0,0)).2 = hiAt l i from rfl] at hc2
      obtain ⟨r1, r2, r3, _⟩ := badAt_zero (HR.out i hlt)
      obtain ⟨lo, hlo⟩ : ∃ x, x = loAt l i := ⟨_, rfl⟩
      obtain ⟨hi', hhi⟩ : ∃ x, x = hiAt l i := ⟨_, rfl⟩
      rw [← hlo] at hc1 r1 r3
      rw [← hhi] at hc2 r2 r3
      have HLO := Lib.hid hlo
      have HHI := Lib.hid hhi
      clear hlo hhi
      go_wp2
      go_loop [7, 8, 9] (fun s _ _ => ∃ k : Nat, k ≤ m.length ∧ s = .int .i64 k ∧ (∀ j, j < k → ¬ (loAt m j ≤ hi' ∧ lo ≤ hiAt m j))) (fun s _ _ => m.length - (intOf s).toNat)
      case atStart => exact ⟨0, Nat.zero_le _, rfl, by omega⟩
      case round =>
        obtain ⟨k, hk, rfl, hj⟩ := hrel
        have HK := Lib.hid hj
        clear hj
        by_cases hkl : k < m.length
        · obtain ⟨b', off', rfl, hd1, hd2⟩ := HM.out.at_ k hkl
          rw [show (m.getD k (0,0)).1 = loAt m k from rfl] at hd1
          rw [show (m.getD k (0,0)).2 = hiAt m k from rfl] at hd2
          obtain ⟨q1, q2, q3, _⟩ := badAt_zero (HR'.out k hkl)
          obtain ⟨lo2, hlo2⟩ : ∃ x, x = loAt m k := ⟨_, rfl⟩
          obtain ⟨hi2, hhi2⟩ : ∃ x, x = hiAt m k := ⟨_, rfl⟩
          rw [← hlo2] at hd1 q1 q3
          rw [← hhi2] at hd2 q2 q3
          have hyes : lo2 ≤ hi' ∧ lo ≤ hi2 → meetL l m = some i := fun h => firstOf_some hlt ((meetAt_iff _ _ _).2 ⟨k, hkl, by rw [← hlo2, ← HHI.out]; exact h.1, by rw [← hhi2, ← HLO.out]; exact h.2⟩) HJ.out
          have hno : ¬ (lo2 ≤ hi' ∧ lo ≤ hi2) → ∀ j, j < k + 1 → ¬ (loAt m j ≤ hi' ∧ lo ≤ hiAt m j) := by
            intro h j hj
            by_cases e : j = k
            · subst e; rw [← hlo2, ← hhi2]; exact h
            · exact HK.out j (by omega)
          have HYES := Lib.hid hyes
          have HNO := Lib.hid hno
          clear hlo2 hhi2 hyes hno
          by_cases h1 : lo < lo2 <;> by_cases h2 : hi2 < hi'
          all_goals
            go_wp2_with (go_at_call 132; refine (ref3_Rune _ _).mono ?_; rintro e w' ⟨rfl, rfl⟩)
          all_goals first
            | (go_ret2
               rw [HYES.out (by omega)]
               exact ⟨rfl, rfl⟩)
            | (go_round
               case rel => exact ⟨k + 1, by omega, by go_num, HNO.out (by omega)⟩
               case measure => simp [intOf]; omega)
        · have hnm : meetAt l m i = false := by
            rw [Bool.eq_false_iff]
            intro h
            obtain ⟨j, hj, h1, h2⟩ := (meetAt_iff _ _ _).1 h
            exact HK.out j (by omega) ⟨by rw [HHI.out]; exact h1, by rw [HLO.out]; exact h2⟩
          have HNM := Lib.hid hnm
          clear hnm
          go_wp2
          go_round
          case rel =>
            refine ⟨i + 1, by omega, by go_num, fun j hj => ?_⟩
            by_cases e : j = i
            · subst e; exact HNM.out
            · exact HJ.out j (by omega)
          case measure => simp [intOf]; omega
    · go_wp2
      go_ret2
      rw [show meetL l m = none from firstOf_none fun j hj => HJ.out j (by omega)]
      exact ⟨rfl, rfl⟩
end Go.Proofs.YtpfnmcgcpgcfjaaDoor
