/- Contract of the reference's chapter 4: Check. -/
import Derived.Test.YtpfnmcgcpgcfjaaDoorRef3
import Derived.Test.YtpfnmcgcpgcfjaaDoorPureCheck
namespace Go.Proofs.YtpfnmcgcpgcfjaaDoor
open Go.RowKit Tess
/-- What Check's walk knows of a world behind its first one. -/
structure C4 (w W : World) (v1 v2 v3 : Value) : Prop where
  below : Below w.heap.size w W
  size : w.heap.size + 2 ≤ W.heap.size
  r0 : W.cell? ⟨w.heap.size, 0, none⟩ = some (.int .i64 0)
  r1 : W.cell? ⟨w.heap.size, 1, none⟩ = some (.int .i64 0)
  r2 : W.cell? ⟨w.heap.size, 2, none⟩ = some (.int .i64 0)
  f0 : W.frozen? ⟨w.heap.size, 0, none⟩ = false
  f1 : W.frozen? ⟨w.heap.size, 1, none⟩ = false
  f2 : W.frozen? ⟨w.heap.size, 2, none⟩ = false
  l0 : W.cell? ⟨w.heap.size + 1, 0, none⟩ = some v1
  l1 : W.cell? ⟨w.heap.size + 1, 1, none⟩ = some v2
  l2 : W.cell? ⟨w.heap.size + 1, 2, none⟩ = some v3
theorem C4.then {w W W' : World} {v1 v2 v3 : Value} (h : C4 w W v1 v2 v3) (hb : Below W.heap.size W W') : C4 w W' v1 v2 v3 := by
  have hs := hb.size
  have hz := h.size
  exact ⟨below_then h.below (by omega) hb, by omega, cell_below hb h.r0, cell_below hb h.r1, cell_below hb h.r2, (hb.frozen (p := ⟨w.heap.size, 0, none⟩) (by show w.heap.size < _; omega)).trans h.f0, (hb.frozen (p := ⟨w.heap.size, 1, none⟩) (by show w.heap.size < _; omega)).trans h.f1, (hb.frozen (p := ⟨w.heap.size, 2, none⟩) (by show w.heap.size < _; omega)).trans h.f2, cell_below hb h.l0, cell_below hb h.l1, cell_below hb h.l2⟩
theorem C4.start (w : World) (v1 v2 v3 : Value) : C4 w ((w.alloc (Obj.cells #[.int .i64 0, .int .i64 0, .int .i64 0] 160)).alloc (Obj.cells #[v1, v2, v3] 24)) v1 v2 v3 := by
  constructor
  · (repeat (first | with_reducible exact Below.refl _ _ | assumption | refine Below.drew ?_ | refine below_drewN ?_ _ | refine Below.alloc ?_ (by first | omega | (simp; done) | (simp; omega)) _ | refine Below.setCell ?_ (by first | omega | (simp; done) | (simp; omega)) _))
  all_goals (first | (go_simp; done) | (simp; done))
theorem ref3_Meet_no (w : World) (n : Nat) (v v' : Value) (l m : Sp) (hA : SpansIn w v l) (hM : SpansIn w v' m) (hR : RightL l) (hR' : RightL m) (h : meetL l m = none) :
   Calls Tryd.prog 112 #[v, v'] (w.drewN n) fun e w' => e = .returned (.tuple #[.int .i64 0, .bool false]) ∧ ∃ m, w' = w.drewN m := by
  have c := ref3_Meet (w.drewN n) v v' l m (hA.drewN n) (hM.drewN n) hR hR'
  rw [h] at c
  exact c.mono fun _ _ ⟨a, b⟩ => ⟨a, n, b.symm⟩
theorem ref3_Meet_yes (w : World) (n : Nat) (v v' : Value) (l m : Sp) (k : Nat) (hA : SpansIn w v l) (hM : SpansIn w v' m) (hR : RightL l) (hR' : RightL m) (h : meetL l m = some k) :
   Calls Tryd.prog 112 #[v, v'] (w.drewN n) fun e w' => e = .returned (.tuple #[.int .i64 (k : Nat), .bool true]) ∧ ∃ m, w' = w.drewN m := by
  have c := ref3_Meet (w.drewN n) v v' l m (hA.drewN n) (hM.drewN n) hR hR'
  rw [h] at c
  exact c.mono fun _ _ ⟨a, b⟩ => ⟨a, n, b.symm⟩
theorem check4_len (a b c : Sp) (i : Nat) (h : (i = 1 ∧ 512 < a.length) ∨ (i = 2 ∧ a.length ≤ 512 ∧ 512 < b.length) ∨ (i = 3 ∧ a.length ≤ 512 ∧ b.length ≤ 512 ∧ 512 < c.length)) : check4 a b c = (4, i, 512) := by
  unfold check4
  rcases h with ⟨rfl, h⟩ | ⟨rfl, h1, h⟩ | ⟨rfl, h1, h2, h⟩
  · rw [if_pos h]
  · rw [if_neg (by omega), if_pos h]
  · rw [if_neg (by omega), if_neg (by omega), if_pos h]
set_option maxHeartbeats 8000000 in
set_option maxRecDepth 100000 in
theorem ref4_Check (w : World) (v1 v2 v3 : Value) (a b c : Sp) (hA : SpansIn w v1 a) (hB : SpansIn w v2 b) (hC : SpansIn w v3 c) :
   Calls Tryd.prog 86 #[v1, v2, v3] w fun e w' => e = .returned (.agg #[.int .i64 (((check4 a b c).1 : Nat) : Int), .int .i64 (((check4 a b c).2.1 : Nat) : Int), .int .i64 (((check4 a b c).2.2 : Nat) : Int)]) ∧ Below w.heap.size w w' := by
  obtain ⟨A1, c1, rfl⟩ := hA.form
  obtain ⟨A2, c2, rfl⟩ := hB.form
  obtain ⟨A3, c3, rfl⟩ := hC.form
  have hl1 := hA.1
  have hl2 := hB.1
  have hl3 := hC.1
  have HA := Lib.hid hA
  have HB := Lib.hid hB
  have HC := Lib.hid hC
  clear hA hB hC
  obtain ⟨p, q, r, hck⟩ : ∃ p q r, check4 a b c = (p, q, r) := ⟨_, _, _, rfl⟩
  rw [hck]
  have HCK := Lib.hid hck
  clear hck
  go_enter Tryd.func86, Tryd.ntmps86
  go_wp2
  obtain ⟨W0, hW0, h4⟩ : ∃ W0, ((w.alloc (Obj.cells #[.int .i64 0, .int .i64 0, .int .i64 0] 160)).alloc (Obj.cells #[.slice A1 a.length c1, .slice A2 b.length c2, .slice A3 c.length c3] 24)) = W0 ∧ C4 w W0 (.slice A1 a.length c1) (.slice A2 b.length c2) (.slice A3 c.length c3) := ⟨_, rfl, C4.start _ _ _ _⟩
  rw [hW0]
  clear hW0
  have H4 := Lib.hid h4
  obtain ⟨g0, g1, g2, g3, g4, g5, g6, g7, g8, g9, g10⟩ := h4
  have G0 := Lib.hid g0
  clear g0
  go_loop [8] (fun s => ∃ i : Nat, i ≤ 3 ∧ s = .int .i64 i ∧ ((0 < i → a.length ≤ 512) ∧ (1 < i → b.length ≤ 512) ∧ (2 < i → c.length ≤ 512))) (fun s => 3 - (intOf s).toNat)
  case atStart => exact ⟨0, by omega, rfl, by omega, by omega, by omega⟩
  case round =>
    obtain ⟨i, hi, rfl, hj⟩ := hrel
    have HJ := Lib.hid hj
    clear hj
    rcases (by omega : i = 0 ∨ i = 1 ∨ i = 2 ∨ i = 3) with rfl | rfl | rfl | rfl
    · by_cases hl : 512 < a.length
      · have e := HCK.out.symm.trans (check4_len a b c 1 (.inl ⟨rfl, hl⟩))
        simp only [Prod.mk.injEq] at e
        obtain ⟨rfl, rfl, rfl⟩ := e
        go_wp2
        refine bodyPost_ret (v := .agg #[.int .i64 4, .int .i64 1, .int .i64 512]) (by simp [results, Tryd.results86, go_sem, g2, g3, g4]) rfl ⟨rfl, ?_⟩
        have hg := G0.out
        (repeat (first | with_reducible exact Below.refl _ _ | assumption | refine Below.drew ?_ | refine below_drewN ?_ _ | refine Below.alloc ?_ (by first | omega | (simp; done) | (simp; omega)) _ | refine Below.setCell ?_ (by first | omega | (simp; done) | (simp; omega)) _))
      · go_wp2
        go_round
        case rel => exact ⟨1, by omega, by go_num, fun _ => by omega, by omega, by omega⟩
        case measure => simp [intOf]
    · by_cases hl : 512 < b.length
      · have e := HCK.out.symm.trans (check4_len a b c 2 (.inr (.inl ⟨rfl, HJ.out.1 (by omega), hl⟩)))
        simp only [Prod.mk.injEq] at e
        obtain ⟨rfl, rfl, rfl⟩ := e
        go_wp2
        refine bodyPost_ret (v := .agg #[.int .i64 4, .int .i64 2, .int .i64 512]) (by simp [results, Tryd.results86, go_sem, g2, g3, g4]) rfl ⟨rfl, ?_⟩
        have hg := G0.out
        (repeat (first | with_reducible exact Below.refl _ _ | assumption | refine Below.drew ?_ | refine below_drewN ?_ _ | refine Below.alloc ?_ (by first | omega | (simp; done) | (simp; omega)) _ | refine Below.setCell ?_ (by first | omega | (simp; done) | (simp; omega)) _))
      · go_wp2
        go_round
        case rel => exact ⟨2, by omega, by go_num, fun _ => HJ.out.1 (by omega), fun _ => by omega, by omega⟩
        case measure => simp [intOf]
    · by_cases hl : 512 < c.length
      · have e := HCK.out.symm.trans (check4_len a b c 3 (.inr (.inr ⟨rfl, HJ.out.1 (by omega), HJ.out.2.1 (by omega), hl⟩)))
        simp only [Prod.mk.injEq] at e
        obtain ⟨rfl, rfl, rfl⟩ := e
        go_wp2
        refine bodyPost_ret (v := .agg #[.int .i64 4, .int .i64 3, .int .i64 512]) (by simp [results, Tryd.results86, go_sem, g2, g3, g4]) rfl ⟨rfl, ?_⟩
        have hg := G0.out
        (repeat (first | with_reducible exact Below.refl _ _ | assumption | refine Below.drew ?_ | refine below_drewN ?_ _ | refine Below.alloc ?_ (by first | omega | (simp; done) | (simp; omega)) _ | refine Below.setCell ?_ (by first | omega | (simp; done) | (simp; omega)) _))
      · go_wp2
        go_round
        case rel => exact ⟨3, by omega, by go_num, fun _ => HJ.out.1 (by omega), fun _ => HJ.out.2.1 (by omega), fun _ => by omega⟩
        case measure => simp [intOf]
    · have q1 := HJ.out.1 (by omega)
      have q2 := HJ.out.2.1 (by omega)
      have q3 := HJ.out.2.2 (by omega)
      have hck := HCK.out
      unfold check4 at hck
      rw [if_neg (by omega), if_neg (by omega), if_neg (by omega)] at hck
      have HK2 := Lib.hid hck
      clear hck HJ HCK
      go_wp2
      clear g2 g3 g4 g5 g6 g7 g8 g9 g10 g1 G0
      go_loopw [9, 10, 11] (fun s _ _ W => ∃ i : Nat, i ≤ 3 ∧ s = .int .i64 i ∧ ((0 < i → (rightL a).2 = 0) ∧ (1 < i → (rightL b).2 = 0) ∧ (2 < i → (rightL c).2 = 0)) ∧ C4 w W (.slice A1 a.length c1) (.slice A2 b.length c2) (.slice A3 c.length c3)) (fun s _ _ _ => 3 - (intOf s).toNat)
      case atStart => exact ⟨0, by omega, rfl, ⟨by omega, by omega, by omega⟩, H4.out⟩
      case round =>
        obtain ⟨i, hi, rfl, hj, h4⟩ := hrel
        have HJ := Lib.hid hj
        have H5 := Lib.hid h4
        obtain ⟨_, g1, _, _, _, _, _, _, g8, g9, g10⟩ := h4
        clear hj
        rcases (by omega : i = 0 ∨ i = 1 ∨ i = 2 ∨ i = 3) with rfl | rfl | rfl | rfl
        · go_wp2_with fail
          refine (ref3_Right _ _ a (HA.out.below H5.out.below)).mono ?_
          rintro e w2 ⟨rfl, hb2⟩
          have h6 := H5.out.then hb2
          clear g1 g8 g9 g10 hb2
          have H6 := Lib.hid h6
          obtain ⟨_, g1, g2, g3, g4, g5, g6, g7, g8, g9, g10⟩ := h6
          have G0 := Lib.hid H6.out.below
          obtain ⟨row, hrow⟩ : ∃ row, (rightL a).1 = row := ⟨_, rfl⟩
          obtain ⟨why, hwhy⟩ : ∃ why, (rightL a).2 = why := ⟨_, rfl⟩
          rw [hrow, hwhy]
          have HR := Lib.hid hrow
          have HW := Lib.hid hwhy
          clear hrow hwhy
          by_cases h0 : why = 0
          · subst h0
            go_wp2
            go_roundw
            case rel => exact ⟨1, by omega, by go_num, ⟨fun _ => HW.out, by omega, by omega⟩, H6.out⟩
            case measure => simp [intOf]
          · have hck := HK2.out
            rw [if_pos (by rw [HW.out]; exact h0), HR.out, HW.out] at hck
            simp only [Prod.mk.injEq] at hck
            obtain ⟨rfl, rfl, rfl⟩ := hck
            have hne : ((why : Int) != 0) = true := by simp; omega
            have hne2 : (why : Int) ≠ 0 := by omega
            go_wp2
            refine bodyPost_ret (v := .agg #[.int .i64 why, .int .i64 1, .int .i64 row]) (by simp [results, Tryd.results86, go_sem, g2, g3, g4]) rfl ⟨rfl, ?_⟩
            have hg := G0.out
            (repeat (first | with_reducible exact Below.refl _ _ | assumption | refine Below.drew ?_ | refine below_drewN ?_ _ | refine Below.alloc ?_ (by first | omega | (simp; done) | (simp; omega)) _ | refine Below.setCell ?_ (by first | omega | (simp; done) | (simp; omega)) _))
        · go_wp2_with fail
          refine (ref3_Right _ _ b (HB.out.below H5.out.below)).mono ?_
          rintro e w2 ⟨rfl, hb2⟩
          have h6 := H5.out.then hb2
          clear g1 g8 g9 g10 hb2
          have H6 := Lib.hid h6
          obtain ⟨_, g1, g2, g3, g4, g5, g6, g7, g8, g9, g10⟩ := h6
          have G0 := Lib.hid H6.out.below
          obtain ⟨row, hrow⟩ : ∃ row, (rightL b).1 = row := ⟨_, rfl⟩
          obtain ⟨why, hwhy⟩ : ∃ why, (rightL b).2 = why := ⟨_, rfl⟩
          rw [hrow, hwhy]
          have HR := Lib.hid hrow
          have HW := Lib.hid hwhy
          clear hrow hwhy
          by_cases h0 : why = 0
          · subst h0
            go_wp2
            go_roundw
            case rel => exact ⟨2, by omega, by go_num, ⟨fun _ => HJ.out.1 (by omega), fun _ => HW.out, by omega⟩, H6.out⟩
            case measure => simp [intOf]
          · have hck := HK2.out
            rw [if_neg (by simp [HJ.out.1 (by omega)]), if_pos (by rw [HW.out]; exact h0), HR.out, HW.out] at hck
            simp only [Prod.mk.injEq] at hck
            obtain ⟨rfl, rfl, rfl⟩ := hck
            have hne : ((why : Int) != 0) = true := by simp; omega
            have hne2 : (why : Int) ≠ 0 := by omega
            go_wp2
            refine bodyPost_ret (v := .agg #[.int .i64 why, .int .i64 2, .int .i64 row]) (by simp [results, Tryd.results86, go_sem, g2, g3, g4]) rfl ⟨rfl, ?_⟩
            have hg := G0.out
            (repeat (first | with_reducible exact Below.refl _ _ | assumption | refine Below.drew ?_ | refine below_drewN ?_ _ | refine Below.alloc ?_ (by first | omega | (simp; done) | (simp; omega)) _ | refine Below.setCell ?_ (by first | omega | (simp; done) | (simp; omega)) _))
        · go_wp2_with fail
          refine (ref3_Right _ _ c (HC.out.below H5.out.below)).mono ?_
          rintro e w2 ⟨rfl, hb2⟩
          have h6 := H5.out.then hb2
          clear g1 g8 g9 g10 hb2
          have H6 := Lib.hid h6
          obtain ⟨_, g1, g2, g3, g4, g5, g6, g7, g8, g9, g10⟩ := h6
          have G0 := Lib.hid H6.out.below
          obtain ⟨row, hrow⟩ : ∃ row, (rightL c).1 = row := ⟨_, rfl⟩
          obtain ⟨why, hwhy⟩ : ∃ why, (rightL c).2 = why := ⟨_, rfl⟩
          rw [hrow, hwhy]
          have HR := Lib.hid hrow
          have HW := Lib.hid hwhy
          clear hrow hwhy
          by_cases h0 : why = 0
          · subst h0
            go_wp2
            go_roundw
            case rel => exact ⟨3, by omega, by go_num, ⟨fun _ => HJ.out.1 (by omega), fun _ => HJ.out.2.1 (by omega), fun _ => HW.out⟩, H6.out⟩
            case measure => simp [intOf]
          · have hck := HK2.out
            rw [if_neg (by simp [HJ.out.1 (by omega)]), if_neg (by simp [HJ.out.2.1 (by omega)]), if_pos (by rw [HW.out]; exact h0), HR.out, HW.out] at hck
            simp only [Prod.mk.injEq] at hck
            obtain ⟨rfl, rfl, rfl⟩ := hck
            have hne : ((why : Int) != 0) = true := by simp; omega
            have hne2 : (why : Int) ≠ 0 := by omega
            go_wp2
            refine bodyPost_ret (v := .agg #[.int .i64 why, .int .i64 3, .int .i64 row]) (by simp [results, Tryd.results86, go_sem, g2, g3, g4]) rfl ⟨rfl, ?_⟩
            have hg := G0.out
            (repeat (first | with_reducible exact Below.refl _ _ | assumption | refine Below.drew ?_ | refine below_drewN ?_ _ | refine Below.alloc ?_ (by first | omega | (simp; done) | (simp; omega)) _ | refine Below.setCell ?_ (by first | omega | (simp; done) | (simp; omega)) _))
        · have RA := rightL_zero (HJ.out.1 (by omega))
          have RB := rightL_zero (HJ.out.2.1 (by omega))
          have RC := rightL_zero (HJ.out.2.2 (by omega))
          have hck := HK2.out
          rw [if_neg (by simp [HJ.out.1 (by omega)]), if_neg (by simp [HJ.out.2.1 (by omega)]), if_neg (by simp [HJ.out.2.2 (by omega)])] at hck
          have HK3 := Lib.hid hck
          have HRA := Lib.hid RA
          have HRB := Lib.hid RB
          have HRC := Lib.hid RC
          clear hck HJ HK2 RA RB RC
          go_wp2
          clear g1 g8 g9 g10
          have H6 := H5
          clear H5
          go_loopw [12] (fun s W => ∃ i : Nat, 1 ≤ i ∧ i ≤ 3 ∧ s = .int .i64 i ∧ ((1 < i → meetL b a = none) ∧ (2 < i → minO (meetL c a) (meetL c b) = none)) ∧ C4 w W (.slice A1 a.length c1) (.slice A2 b.length c2) (.slice A3 c.length c3)) (fun s _ => 3 - (intOf s).toNat)
          case atStart => exact ⟨1, by omega, by omega, rfl, ⟨by omega, by omega⟩, H6.out⟩
          case round =>
            obtain ⟨i, hi1, hi, rfl, hj, h4⟩ := hrel
            have HJ := Lib.hid hj
            have H5 := Lib.hid h4
            have hbl := h4.below
            have sa := HA.out.below hbl
            have sb := HB.out.below hbl
            have sc := HC.out.below hbl
            have SA := Lib.hid sa
            have SB := Lib.hid sb
            have SC := Lib.hid sc
            clear sa sb sc hbl
            obtain ⟨_, g1, g2, g3, g4, g5, g6, g7, g8, g9, g10⟩ := h4
            have G0 := Lib.hid H5.out.below
            clear hj
            rcases (by omega : i = 1 ∨ i = 2 ∨ i = 3) with rfl | rfl | rfl
            · obtain ⟨o, hm⟩ : ∃ o, meetL b a = o := ⟨_, rfl⟩
              cases o with
              | none =>
                have HM := Lib.hid hm
                clear hm
                go_wp2
                refine wp_loop_rounds 2 ?_
                rw [rounds_succ]
                go_wp2
                go_quiet ((go_at_call 112; exact ref3_Meet_no _ _ _ _ b a SB.out SA.out HRB.out HRA.out HM.out))
                go_wp2
                rw [rounds_succ]
                go_wp2
                go_roundw
                case rel => exact ⟨2, by omega, by omega, by go_num, ⟨fun _ => HM.out, by omega⟩, H5.out.then (below_drewN (Below.refl _ _) _)⟩
                case measure => simp [intOf]
              | some k =>
                have hck := HK3.out
                rw [hm] at hck
                simp only [Prod.mk.injEq] at hck
                obtain ⟨rfl, rfl, rfl⟩ := hck
                have HM := Lib.hid hm
                clear hm
                go_wp2
                refine wp_loop_rounds 2 ?_
                rw [rounds_succ]
                go_wp2
                go_quiet ((go_at_call 112; exact ref3_Meet_yes _ _ _ _ b a k SB.out SA.out HRB.out HRA.out HM.out))
                go_wp2
                rw [rounds_succ]
                go_wp2
                refine bodyPost_ret (v := .agg #[.int .i64 16, .int .i64 2, .int .i64 k]) (by simp [results, Tryd.results86, go_sem, g2, g3, g4]) rfl ⟨rfl, ?_⟩
                have hg := G0.out
                (repeat (first | with_reducible exact Below.refl _ _ | assumption | refine Below.drew ?_ | refine below_drewN ?_ _ | refine Below.alloc ?_ (by first | omega | (simp; done) | (simp; omega)) _ | refine Below.setCell ?_ (by first | omega | (simp; done) | (simp; omega)) _))
            · have hck := HK3.out
              rw [HJ.out.1 (by omega)] at hck
              have HK4 := Lib.hid hck
              clear hck
              obtain ⟨o, hm⟩ : ∃ o, meetL c a = o := ⟨_, rfl⟩
              obtain ⟨o2, hm2⟩ : ∃ o, meetL c b = o := ⟨_, rfl⟩
              cases o with
              | none =>
                cases o2 with
                | none =>
                  have HM := Lib.hid hm
                  have HM2 := Lib.hid hm2
                  clear hm hm2
                  go_wp2
                  refine wp_loop_rounds 3 ?_
                  rw [rounds_succ]
                  go_wp2
                  go_quiet ((go_at_call 112; exact ref3_Meet_no _ _ _ _ c a SC.out SA.out HRC.out HRA.out HM.out))
                  go_wp2
                  rw [rounds_succ]
                  go_wp2
                  have h5 := H5.out.then (below_drewN (Below.refl _ _) nq)
                  generalize wr.drewN nq = wr2 at h5 ⊢
                  have hbl := h5.below
                  have sc := HC.out.below hbl
                  have sb := HB.out.below hbl
                  have SC := Lib.hid sc
                  have SB := Lib.hid sb
                  have H5 := Lib.hid h5
                  clear sc sb hbl g1 g2 g3 g4 g5 g6 g7 g8 g9 g10 G0
                  obtain ⟨_, g1, g2, g3, g4, g5, g6, g7, g8, g9, g10⟩ := h5
                  have G0 := Lib.hid H5.out.below
                  go_quiet ((go_at_call 112; exact ref3_Meet_no _ _ _ _ c b SC.out SB.out HRC.out HRB.out HM2.out))
                  go_wp2
                  rw [rounds_succ]
                  go_wp2
                  go_roundw
                  case rel => (repeat apply Exists.intro); exact ⟨⟨3, by omega, by omega, by go_num, ⟨fun _ => HJ.out.1 (by omega), fun _ => by rw [HM.out, HM2.out]; rfl⟩, H5.out.then (below_drewN (Below.refl _ _) _)⟩, rfl⟩
                  case measure => simp [intOf]
                | some k2 =>
                  have hck := HK4.out
                  rw [hm, hm2] at hck
                  simp only [minO, Prod.mk.injEq] at hck
                  obtain ⟨rfl, rfl, rfl⟩ := hck
                  have HM := Lib.hid hm
                  have HM2 := Lib.hid hm2
                  clear hm hm2
                  go_wp2
                  refine wp_loop_rounds 3 ?_
                  rw [rounds_succ]
                  go_wp2
                  go_quiet ((go_at_call 112; exact ref3_Meet_no _ _ _ _ c a SC.out SA.out HRC.out HRA.out HM.out))
                  go_wp2
                  rw [rounds_succ]
                  go_wp2
                  have h5 := H5.out.then (below_drewN (Below.refl _ _) nq)
                  generalize wr.drewN nq = wr2 at h5 ⊢
                  have hbl := h5.below
                  have sc := HC.out.below hbl
                  have sb := HB.out.below hbl
                  have SC := Lib.hid sc
                  have SB := Lib.hid sb
                  have H5 := Lib.hid h5
                  clear sc sb hbl g1 g2 g3 g4 g5 g6 g7 g8 g9 g10 G0
                  obtain ⟨_, g1, g2, g3, g4, g5, g6, g7, g8, g9, g10⟩ := h5
                  have G0 := Lib.hid H5.out.below
                  go_quiet ((go_at_call 112; exact ref3_Meet_yes _ _ _ _ c b k2 SC.out SB.out HRC.out HRB.out HM2.out))
                  go_wp2
                  rw [rounds_succ]
                  go_wp2
                  refine bodyPost_ret (v := .agg #[.int .i64 16, .int .i64 3, .int .i64 k2]) (by simp [results, Tryd.results86, go_sem, g2, g3, g4]) rfl ⟨rfl, ?_⟩
                  have hg := G0.out
                  (repeat (first | with_reducible exact Below.refl _ _ | assumption | refine Below.drew ?_ | refine below_drewN ?_ _ | refine Below.alloc ?_ (by first | omega | (simp; done) | (simp; omega)) _ | refine Below.setCell ?_ (by first | omega | (simp; done) | (simp; omega)) _))
              | some k =>
                cases o2 with
                | none =>
                  have hck := HK4.out
                  rw [hm, hm2] at hck
                  simp only [minO, Prod.mk.injEq] at hck
                  obtain ⟨rfl, rfl, rfl⟩ := hck
                  have HM := Lib.hid hm
                  have HM2 := Lib.hid hm2
                  clear hm hm2
                  go_wp2
                  refine wp_loop_rounds 3 ?_
                  rw [rounds_succ]
                  go_wp2
                  go_quiet ((go_at_call 112; exact ref3_Meet_yes _ _ _ _ c a k SC.out SA.out HRC.out HRA.out HM.out))
                  go_wp2
                  rw [rounds_succ]
                  go_wp2
                  have h5 := H5.out.then (below_drewN (Below.refl _ _) nq)
                  generalize wr.drewN nq = wr2 at h5 ⊢
                  have hbl := h5.below
                  have sc := HC.out.below hbl
                  have sb := HB.out.below hbl
                  have SC := Lib.hid sc
                  have SB := Lib.hid sb
                  have H5 := Lib.hid h5
                  clear sc sb hbl g1 g2 g3 g4 g5 g6 g7 g8 g9 g10 G0
                  obtain ⟨_, g1, g2, g3, g4, g5, g6, g7, g8, g9, g10⟩ := h5
                  have G0 := Lib.hid H5.out.below
                  go_quiet ((go_at_call 112; exact ref3_Meet_no _ _ _ _ c b SC.out SB.out HRC.out HRB.out HM2.out))
                  go_wp2
                  rw [rounds_succ]
                  go_wp2
                  refine bodyPost_ret (v := .agg #[.int .i64 16, .int .i64 3, .int .i64 k]) (by simp [results, Tryd.results86, go_sem, g2, g3, g4]) rfl ⟨rfl, ?_⟩
                  have hg := G0.out
                  (repeat (first | with_reducible exact Below.refl _ _ | assumption | refine Below.drew ?_ | refine below_drewN ?_ _ | refine Below.alloc ?_ (by first | omega | (simp; done) | (simp; omega)) _ | refine Below.setCell ?_ (by first | omega | (simp; done) | (simp; omega)) _))
                | some k2 =>
                  have hck := HK4.out
                  rw [hm, hm2] at hck
                  simp only [minO, Prod.mk.injEq] at hck
                  have HM := Lib.hid hm
                  have HM2 := Lib.hid hm2
                  clear hm hm2
                  by_cases hlt : k2 < k
                  · rw [show min k k2 = k2 by omega] at hck
                    obtain ⟨rfl, rfl, rfl⟩ := hck
                    have hd : decide (k2 < k) = true := by simpa using hlt
                    go_wp2
                    refine wp_loop_rounds 3 ?_
                    rw [rounds_succ]
                    go_wp2
                    go_quiet ((go_at_call 112; exact ref3_Meet_yes _ _ _ _ c a k SC.out SA.out HRC.out HRA.out HM.out))
                    go_wp2
                    rw [rounds_succ]
                    go_wp2
                    have h5 := H5.out.then (below_drewN (Below.refl _ _) nq)
                    generalize wr.drewN nq = wr2 at h5 ⊢
                    have hbl := h5.below
                    have sc := HC.out.below hbl
                    have sb := HB.out.below hbl
                    have SC := Lib.hid sc
                    have SB := Lib.hid sb
                    have H5 := Lib.hid h5
                    clear sc sb hbl g1 g2 g3 g4 g5 g6 g7 g8 g9 g10 G0
                    obtain ⟨_, g1, g2, g3, g4, g5, g6, g7, g8, g9, g10⟩ := h5
                    have G0 := Lib.hid H5.out.below
                    go_quiet ((go_at_call 112; exact ref3_Meet_yes _ _ _ _ c b k2 SC.out SB.out HRC.out HRB.out HM2.out))
                    go_wp2
                    rw [rounds_succ]
                    go_wp2
                    refine bodyPost_ret (v := .agg #[.int .i64 16, .int .i64 3, .int .i64 k2]) (by simp [results, Tryd.results86, go_sem, g2, g3, g4]) rfl ⟨rfl, ?_⟩
                    have hg := G0.out
                    (repeat (first | with_reducible exact Below.refl _ _ | assumption | refine Below.drew ?_ | refine below_drewN ?_ _ | refine Below.alloc ?_ (by first | omega | (simp; done) | (simp; omega)) _ | refine Below.setCell ?_ (by first | omega | (simp; done) | (simp; omega)) _))
                  · rw [show min k k2 = k by omega] at hck
                    obtain ⟨rfl, rfl, rfl⟩ := hck
                    have hd : decide (k2 < k) = false := by simpa using hlt
                    go_wp2
                    refine wp_loop_rounds 3 ?_
                    rw [rounds_succ]
                    go_wp2
                    go_quiet ((go_at_call 112; exact ref3_Meet_yes _ _ _ _ c a k SC.out SA.out HRC.out HRA.out HM.out))
                    go_wp2
                    rw [rounds_succ]
                    go_wp2
                    have h5 := H5.out.then (below_drewN (Below.refl _ _) nq)
                    generalize wr.drewN nq = wr2 at h5 ⊢
                    have hbl := h5.below
                    have sc := HC.out.below hbl
                    have sb := HB.out.below hbl
                    have SC := Lib.hid sc
                    have SB := Lib.hid sb
                    have H5 := Lib.hid h5
                    clear sc sb hbl g1 g2 g3 g4 g5 g6 g7 g8 g9 g10 G0
                    obtain ⟨_, g1, g2, g3, g4, g5, g6, g7, g8, g9, g10⟩ := h5
                    have G0 := Lib.hid H5.out.below
                    go_quiet ((go_at_call 112; exact ref3_Meet_yes _ _ _ _ c b k2 SC.out SB.out HRC.out HRB.out HM2.out))
                    go_wp2
                    rw [rounds_succ]
                    go_wp2
                    refine bodyPost_ret (v := .agg #[.int .i64 16, .int .i64 3, .int .i64 k]) (by simp [results, Tryd.results86, go_sem, g2, g3, g4]) rfl ⟨rfl, ?_⟩
                    have hg := G0.out
                    (repeat (first | with_reducible exact Below.refl _ _ | assumption | refine Below.drew ?_ | refine below_drewN ?_ _ | refine Below.alloc ?_ (by first | omega | (simp; done) | (simp; omega)) _ | refine Below.setCell ?_ (by first | omega | (simp; done) | (simp; omega)) _))
            · have hck := HK3.out
              rw [HJ.out.1 (by omega)] at hck
              simp only [HJ.out.2 (by omega)] at hck
              have HK4 := Lib.hid hck
              clear hck
              have RUN : ∀ W v l x, SpansIn W v l → Calls Tryd.prog 113 #[v, .int .i32 x] W fun e w' => e = .returned (.bool (inL l x)) ∧ W = w' := fun W v l x h => ref3_In W v l x h
              have HRUN := Lib.hid RUN
              clear RUN
              go_wp2_with fail
              refine (HRUN.out _ _ c 32 SC.out).mono ?_
              rintro e w2 ⟨rfl, rfl⟩
              cases q1 : inL c 32
              · have hbb : blankBad a b c = true := by unfold blankBad; rw [q1]; rfl
                have hck := HK4.out
                rw [if_pos hbb] at hck
                simp only [Prod.mk.injEq] at hck
                obtain ⟨rfl, rfl, rfl⟩ := hck
                go_wp2
                refine bodyPost_ret (v := .agg #[.int .i64 20, .int .i64 3, .int .i64 0]) (by simp [results, Tryd.results86, go_sem, g2, g3, g4]) rfl ⟨rfl, ?_⟩
                have hg := G0.out
                (repeat (first | with_reducible exact Below.refl _ _ | assumption | refine Below.drew ?_ | refine below_drewN ?_ _ | refine Below.alloc ?_ (by first | omega | (simp; done) | (simp; omega)) _ | refine Below.setCell ?_ (by first | omega | (simp; done) | (simp; omega)) _))
              · go_wp2_with fail
                refine (HRUN.out _ _ a 39 SA.out).mono ?_
                rintro e w2 ⟨rfl, rfl⟩
                cases q2 : inL a 39
                · go_wp2_with fail
                  refine (HRUN.out _ _ b 39 SB.out).mono ?_
                  rintro e w2 ⟨rfl, rfl⟩
                  cases q3 : inL b 39
                  · go_wp2_with fail
                    refine (HRUN.out _ _ c 39 SC.out).mono ?_
                    rintro e w2 ⟨rfl, rfl⟩
                    cases q4 : inL c 39
                    · have hbb : blankBad a b c = false := by unfold blankBad; rw [q1, q2, q3, q4]; rfl
                      have hck := HK4.out
                      rw [if_neg (by rw [hbb]; simp)] at hck
                      simp only [Prod.mk.injEq] at hck
                      obtain ⟨rfl, rfl, rfl⟩ := hck
                      go_wp2
                      refine bodyPost_ret (v := .agg #[.int .i64 0, .int .i64 0, .int .i64 0]) (by simp [results, Tryd.results86, go_sem, g2, g3, g4]) rfl ⟨rfl, ?_⟩
                      have hg := G0.out
                      (repeat (first | with_reducible exact Below.refl _ _ | assumption | refine Below.drew ?_ | refine below_drewN ?_ _ | refine Below.alloc ?_ (by first | omega | (simp; done) | (simp; omega)) _ | refine Below.setCell ?_ (by first | omega | (simp; done) | (simp; omega)) _))
                    · have hbb : blankBad a b c = true := by unfold blankBad; rw [q4]; simp
                      have hck := HK4.out
                      rw [if_pos hbb] at hck
                      simp only [Prod.mk.injEq] at hck
                      obtain ⟨rfl, rfl, rfl⟩ := hck
                      go_wp2
                      refine bodyPost_ret (v := .agg #[.int .i64 20, .int .i64 3, .int .i64 0]) (by simp [results, Tryd.results86, go_sem, g2, g3, g4]) rfl ⟨rfl, ?_⟩
                      have hg := G0.out
                      (repeat (first | with_reducible exact Below.refl _ _ | assumption | refine Below.drew ?_ | refine below_drewN ?_ _ | refine Below.alloc ?_ (by first | omega | (simp; done) | (simp; omega)) _ | refine Below.setCell ?_ (by first | omega | (simp; done) | (simp; omega)) _))
                  · have hbb : blankBad a b c = true := by unfold blankBad; rw [q3]; simp
                    have hck := HK4.out
                    rw [if_pos hbb] at hck
                    simp only [Prod.mk.injEq] at hck
                    obtain ⟨rfl, rfl, rfl⟩ := hck
                    go_wp2
                    refine bodyPost_ret (v := .agg #[.int .i64 20, .int .i64 3, .int .i64 0]) (by simp [results, Tryd.results86, go_sem, g2, g3, g4]) rfl ⟨rfl, ?_⟩
                    have hg := G0.out
                    (repeat (first | with_reducible exact Below.refl _ _ | assumption | refine Below.drew ?_ | refine below_drewN ?_ _ | refine Below.alloc ?_ (by first | omega | (simp; done) | (simp; omega)) _ | refine Below.setCell ?_ (by first | omega | (simp; done) | (simp; omega)) _))
                · have hbb : blankBad a b c = true := by unfold blankBad; rw [q2]; simp
                  have hck := HK4.out
                  rw [if_pos hbb] at hck
                  simp only [Prod.mk.injEq] at hck
                  obtain ⟨rfl, rfl, rfl⟩ := hck
                  go_wp2
                  refine bodyPost_ret (v := .agg #[.int .i64 20, .int .i64 3, .int .i64 0]) (by simp [results, Tryd.results86, go_sem, g2, g3, g4]) rfl ⟨rfl, ?_⟩
                  have hg := G0.out
                  (repeat (first | with_reducible exact Below.refl _ _ | assumption | refine Below.drew ?_ | refine below_drewN ?_ _ | refine Below.alloc ?_ (by first | omega | (simp; done) | (simp; omega)) _ | refine Below.setCell ?_ (by first | omega | (simp; done) | (simp; omega)) _))
end Go.Proofs.YtpfnmcgcpgcfjaaDoor
