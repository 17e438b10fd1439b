/- Contract of spans.Meet. -/
import Derived.Test.YtpfnmcgcpgcfjaaDoorSpans3
import Derived.StillTailTactics
namespace Go.Proofs.YtpfnmcgcpgcfjaaDoor
open Go.RowKit Tess
theorem isRune_range {r : Int} (h : isRune r = true) : -2147483648 ≤ r ∧ r ≤ 2147483647 := by
  unfold isRune at h
  simp at h
  omega
set_option maxHeartbeats 4000000 in
set_option maxRecDepth 100000 in
theorem spans_Meet (w : World) (v v' : Value) (l m : Sp) (hA : SpansIn w v l) (hM : SpansIn w v' m) (hR : RightL l) (hR' : RightL m) :
   Calls Tryd.prog 107 #[v, v'] w fun e w' => e = .returned (.tuple #[.int .i64 (((meetL l m).getD 0 : Nat) : Int), .bool (meetL l m).isSome]) ∧ Below w.heap.size w w' := by
  obtain ⟨A, c, rfl⟩ := hA.form
  obtain ⟨A', c', rfl⟩ := hM.form
  have hlen := hA.1
  have hlen' := hM.1
  have HA := Lib.hid hA
  have HM := Lib.hid hM
  have HR := Lib.hid hR
  have HR' := Lib.hid hR'
  clear hA hM hR hR'
  go_enter Tryd.func107, Tryd.ntmps107
  go_wp2
  go_loopw [12] (fun s W => ∃ i : Nat, i ≤ l.length ∧ s = .int .i64 i ∧ (∀ j, j < i → meetAt l m j = false) ∧ Below w.heap.size w W) (fun s _ => l.length - (intOf s).toNat)
  case atStart => exact ⟨0, Nat.zero_le _, rfl, by omega, Below.refl _ _⟩
  case round =>
    obtain ⟨i, hi, rfl, hj, hb⟩ := hrel
    have HJ := Lib.hid hj
    have HB := Lib.hid hb
    have hs := hb.size
    clear hj hb
    by_cases hlt : i < l.length
    · obtain ⟨b, off, rfl, hc1, hc2⟩ := (HA.out.below HB.out).at_ i hlt
      rw [show (l.getD i (0,0)).1 = loAt l i from rfl] at hc1
      rw [show (l.getD i (0,0)).2 = hiAt l i from rfl] at hc2
      obtain ⟨r1, r2, r3, _⟩ := badAt_zero (HR.out i hlt)
      obtain ⟨lo, hlo⟩ : ∃ x, x = loAt l i := ⟨_, rfl⟩
      obtain ⟨hi', hhi⟩ : ∃ x, x = hiAt l i := ⟨_, rfl⟩
      rw [← hlo] at hc1 r1 r3
      rw [← hhi] at hc2 r2 r3
      have R1 := Lib.hid r1
      have R2 := Lib.hid r2
      have HLO := Lib.hid hlo
      have HHI := Lib.hid hhi
      clear hlo hhi r1 r2
      go_wp2_with fail
      have hb1 : Below wr.heap.size wr (wr.alloc (Obj.cells #[Value.int .i32 lo, Value.int .i32 hi'] 135)) := (Below.refl _ _).alloc (Nat.le_refl _) _
      refine (spans_find _ _ m lo (HM.out.below (below_then HB.out hs hb1))).mono ?_
      rintro e w2 ⟨⟨k, rfl, hk⟩, hb2⟩
      have hx1 : w2.cell? ⟨wr.heap.size, 0, none⟩ = some (.int .i32 lo) := cell_below hb2 (by go_simp)
      have hx2 : w2.cell? ⟨wr.heap.size, 1, none⟩ = some (.int .i32 hi') := cell_below hb2 (by go_simp)
      have hz := hb2.size
      simp at hz
      have hbw : Below w.heap.size w w2 := below_then HB.out hs (below_then hb1 (by simp) hb2)
      have HBW := Lib.hid hbw
      have hmt := meetAt_find (a := l) (i := i) HR'.out (HLO.out ▸ hk)
      rw [← HHI.out] at hmt
      have HMT := Lib.hid hmt
      have hk0 := hk.1
      have HK := Lib.hid hk
      clear hb1 hb2 hbw hmt hk hc1 hc2
      go_wp2_with fail
      refine wp_loop_rounds 1 ?_
      rw [rounds_succ]
      by_cases hkl : k < m.length
      · obtain ⟨b', off', rfl, hd1, hd2⟩ := (HM.out.below HBW.out).at_ k hkl
        rw [show (m.getD k (0,0)).1 = loAt m k from rfl] at hd1
        rw [show (m.getD k (0,0)).2 = hiAt m k from rfl] at hd2
        obtain ⟨q1, q2, q3, _⟩ := badAt_zero (HR'.out k hkl)
        have hkf := HK.out.2.2 hkl
        obtain ⟨lo2, hlo2⟩ : ∃ x, x = loAt m k := ⟨_, rfl⟩
        obtain ⟨hi2, hhi2⟩ : ∃ x, x = hiAt m k := ⟨_, rfl⟩
        rw [← hlo2] at hd1 q1 q3 HMT
        rw [← hhi2] at hd2 q2 q3 hkf
        have Q1 := Lib.hid q1
        have Q2 := Lib.hid q2
        have hkd : decide (k < m.length) = true := by simpa using hkl
        clear hlo2 hhi2 q1 q2
        by_cases hmm : lo2 ≤ hi'
        · have hd : decide (lo2 ≤ hi') = true := by simpa using hmm
          go_wp2
          go_quiet (fail)
          go_wp2
          have e1 : (w2.drewN nq).cell? ⟨wr.heap.size, 0, none⟩ = some (.int .i32 lo) := hx1
          have e2 : (w2.drewN nq).cell? ⟨wr.heap.size, 1, none⟩ = some (.int .i32 hi') := hx2
          have e3 : (w2.drewN nq).cell? ⟨b', off' + k * 2, none⟩ = some (.int .i32 lo2) := hd1
          have e4 : (w2.drewN nq).cell? ⟨b', off' + k * 2 + 1, none⟩ = some (.int .i32 hi2) := hd2
          have e5 : wr.heap.size < (w2.drewN nq).heap.size := hz
          have e6 : b' < (w2.drewN nq).heap.size := World.block_lt_of_cell? _ _ e3
          have e7 : Below w.heap.size w (w2.drewN nq) := below_drewN HBW.out _
          have e8 := e7.size
          generalize w2.drewN nq = w3 at e1 e2 e3 e4 e5 e6 e7 e8 ⊢
          have HB3 := Lib.hid e7
          clear e7 hx1 hx2 hd1 hd2 hz HBW
          go_region
          have hlo4 := isRune_range (isRune_max R1.out Q1.out)
          have hhi4 := isRune_range (isRune_min R2.out Q2.out)
          have hpos := sizeOne_pos (lo := max lo lo2) (hi := min hi' hi2) (by omega) (isRune_max R1.out Q1.out) (isRune_min R2.out Q2.out)
          have hmm2 : meetL l m = some i := firstOf_some hlt (by rw [HMT.out]; simp [hkl, hmm]) HJ.out
          have HMM2 := Lib.hid hmm2
          clear hmm2
          go_wp2_with fail
          refine (spans_Size _ _ (max lo lo2) (min hi' hi2) (by omega) (by omega) (by go_simp) (by go_simp)).mono ?_
          rintro e w4 ⟨rfl, hb4⟩
          have hd6 : decide (0 < sizeOne (max lo lo2) (min hi' hi2)) = true := by simpa using hpos
          generalize sizeOne (max lo lo2) (min hi' hi2) = sz at hpos hd6 ⊢
          go_wp2
          go_ret2
          rw [HMM2.out]
          refine ⟨rfl, ?_⟩
          have := hb4.size
          exact below_then HB3.out (by omega) (below_then (by (repeat (first | with_reducible exact Below.refl _ _ | assumption | refine Below.drew ?_ | refine below_drewN ?_ _ | refine Below.alloc ?_ (by first | omega | (simp; done) | (simp; omega)) _ | refine Below.setCell ?_ (by first | omega | (simp; done) | (simp; omega)) _))) (by first | omega | (simp; done) | (simp; omega)) hb4)
        · have hd : decide (lo2 ≤ hi') = false := by simpa using hmm
          go_wp2
          go_quiet (fail)
          go_wp2
          exact ⟨⟨i + 1, by omega, by go_num, fun j hj => by
            by_cases e : j = i
            · subst e; rw [HMT.out]; simp [hmm]
            · exact HJ.out j (by omega), below_drewN HBW.out _⟩, by simp [intOf]; omega⟩
      · have hkd : decide (k < m.length) = false := by simpa using hkl
        go_wp2
        go_quiet (fail)
        go_wp2
        exact ⟨⟨i + 1, by omega, by go_num, fun j hj => by
            by_cases e : j = i
            · subst e; rw [HMT.out]; simp [hkl]
            · exact HJ.out j (by omega), below_drewN HBW.out _⟩, by simp [intOf]; omega⟩
    · go_wp2
      go_ret2
      rw [show meetL l m = none from firstOf_none fun j hj => HJ.out j (by omega)]
      exact ⟨rfl, HB.out⟩
end Go.Proofs.YtpfnmcgcpgcfjaaDoor
