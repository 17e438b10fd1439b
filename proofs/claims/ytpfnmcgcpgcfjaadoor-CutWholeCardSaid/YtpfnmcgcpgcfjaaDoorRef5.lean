/- Contracts of the reference's chapter 5: made, Word, words. -/
import Derived.Test.YtpfnmcgcpgcfjaaDoorProg
import Derived.Test.YtpfnmcgcpgcfjaaDoorWords2
namespace Go.Proofs.YtpfnmcgcpgcfjaaDoor
open Go.RowKit Tess
theorem madeB_small {ms : List Mg} {n : Nat} {id : Int} (h0 : 0 ≤ id) (h1 : id < 256) : madeB ms n id = true := by unfold madeB; simp [h0, h1]
theorem madeB_found {ms : List Mg} {n i : Nat} {id : Int} (h : ¬ (0 ≤ id ∧ id < 256)) (hi : i < n) (he : (mI ms i == id) = true) (hj : ∀ j, j < i → (mI ms j == id) = false) : madeB ms n id = decide (256 ≤ id) := by
  unfold madeB
  rw [firstOf_some hi he hj]
  have : (decide (0 ≤ id) && decide (id < 256)) = false := by simp; omega
  simp [this]
theorem madeB_none {ms : List Mg} {n : Nat} {id : Int} (h : ¬ (0 ≤ id ∧ id < 256)) (hj : ∀ j, j < n → (mI ms j == id) = false) : madeB ms n id = false := by
  unfold madeB
  rw [firstOf_none hj]
  simp; omega
set_option maxHeartbeats 2000000 in
set_option maxRecDepth 100000 in
theorem ref5_made (w : World) (vw vm va vb vc : Value) (ms : List Mg) (n : Nat) (id : Int) (hM : MergesIn w vm ms) (hn : n ≤ ms.length) :
   Calls Tryd.prog 114 #[.agg #[vw, vm, va, vb, vc], .int .i64 n, .int .i64 id] w fun e w' => e = .returned (.bool (madeB ms n id)) ∧ Below w.heap.size w w' := by
  obtain ⟨A, c, rfl⟩ := hM.form
  have hlen := hM.1
  have HM := Lib.hid hM
  clear hM
  have hb : Below w.heap.size w (w.alloc (Obj.cells #[vw, .slice A ms.length c, va, vb, vc] 26)) := by (repeat (first | with_reducible exact Below.refl _ _ | assumption | refine Below.drew ?_ | refine below_drewN ?_ _ | refine Below.alloc ?_ (by first | omega | (simp; done) | (simp; omega)) _ | refine Below.setCell ?_ (by first | omega | (simp; done) | (simp; omega)) _))
  have HB := Lib.hid hb
  clear hb
  by_cases h0 : 0 ≤ id ∧ id < 256
  · obtain ⟨h0, h1⟩ := h0
    rw [madeB_small h0 h1]
    go_enter Tryd.func114, Tryd.ntmps114
    go_wp2
    go_ret
    exact ⟨rfl, HB.out⟩
  · have H0 := Lib.hid h0
    have hd : (0 ≤ id → 256 ≤ id) := by omega
    have HD := Lib.hid hd
    clear h0 hd
    obtain ⟨r, hr⟩ : ∃ r, madeB ms n id = r := ⟨_, rfl⟩
    rw [hr]
    have HR := Lib.hid hr
    clear hr
    have key : ∀ (h : Unit), (0 ≤ id ∧ 256 ≤ id) ∨ id < 0 := fun _ => by have := HD.out; omega
    have HK := Lib.hid key
    clear key
    rcases HK.out () with ⟨k1, k2⟩ | k1
    all_goals
      go_enter Tryd.func114, Tryd.ntmps114
      go_wp2
      go_loop [7] (fun s => ∃ i : Nat, i ≤ n ∧ s = .int .i64 i ∧ (∀ j, j < i → (mI ms j == id) = false)) (fun s => n - (intOf s).toNat)
      case atStart => exact ⟨0, Nat.zero_le _, rfl, by omega⟩
      case round =>
        obtain ⟨i, hi, rfl, hj⟩ := hrel
        have HJ := Lib.hid hj
        clear hj
        by_cases hlt : i < n
        · obtain ⟨b, off, rfl, _, _, hc⟩ := HM.out.at_ i (by omega)
          have hbl : b < w.heap.size := World.block_lt_of_cell? _ _ hc
          obtain ⟨x, hx⟩ : ∃ x, x = mI ms i := ⟨_, rfl⟩
          rw [← hx] at hc
          have hil : i < ms.length := by omega
          by_cases he : x = id
          · have hb : (x == id) = true := by simpa using he
            have hres := madeB_found H0.out hlt (by rw [← hx]; exact hb) HJ.out
            rw [HR.out] at hres
            have HX := Lib.hid hx
            clear hx he
            subst hres
            go_wp2
            go_ret
            exact ⟨by simp [*], HB.out⟩
          · have hb : (x == id) = false := by simpa using he
            have HX := Lib.hid hx
            clear hx he
            go_wp2
            go_round
            case rel =>
              refine ⟨i + 1, by omega, by go_num, fun j hj => ?_⟩
              by_cases e : j = i
              · subst e; rw [← HX.out]; exact hb
              · exact HJ.out j (by omega)
            case measure => simp [intOf]; omega
        · have hres := madeB_none (ms := ms) (n := n) H0.out fun j hj => HJ.out j (by omega)
          rw [HR.out] at hres
          subst hres
          go_wp2
          go_ret
          exact ⟨rfl, HB.out⟩
theorem conv_byte (W : World) (g : Nat) (x : Int) (hc : W.cell? ⟨g, 0, none⟩ = some (.int .u8 x)) : (convert 94 9 (.slice (some ⟨g, 0, none⟩) 1 1)).run Tryd.prog W = .ok (.string ⟨#[UInt8.ofNat x.toNat]⟩) W :=
  run_convert_bytes_arg W 94 5 Tryd.underlying94 Tryd.underlying5 g 0 1 1 [x] rfl (fun i hi => by (obtain rfl : i = 0 := by omega); exact hc) 9 Tryd.underlying9
theorem wordOf_small {ws : List ByteArray} {id : Int} (h0 : 0 ≤ id) (h1 : id < 256) : wordOf ws id = some ⟨#[UInt8.ofNat id.toNat]⟩ := by unfold wordOf; rw [if_pos ⟨h0, h1⟩]
theorem wordOf_great {ws : List ByteArray} {id : Int} (h0 : 256 ≤ id) (h1 : id - 256 < ws.length) : wordOf ws id = some (wAt ws (id - 256).toNat) := by unfold wordOf; rw [if_neg (by omega), if_pos ⟨h0, h1⟩]
theorem wordOf_none {ws : List ByteArray} {id : Int} (h : id < 0 ∨ (ws.length : Int) ≤ id - 256) : wordOf ws id = none := by unfold wordOf; rw [if_neg (by omega), if_neg (by omega)]
set_option maxHeartbeats 2000000 in
set_option maxRecDepth 100000 in
theorem ref5_Word (w : World) (vw vm va vb vc : Value) (ws : List ByteArray) (id : Int) (hW : StrsIn w vw ws) (hid : -9223372036854775808 ≤ id ∧ id ≤ 9223372036854775807) :
   Calls Tryd.prog 115 #[.agg #[vw, vm, va, vb, vc], .int .i64 id] w fun e w' => e = .returned (.tuple #[.string (wordD ws id), .bool (wordOf ws id).isSome]) ∧ Below w.heap.size w w' := by
  obtain ⟨A, c, rfl⟩ := hW.form
  have hlen := hW.1
  have HW := Lib.hid hW
  obtain ⟨hid1, hid2⟩ := hid
  clear hW
  have hb : Below w.heap.size w (w.alloc (Obj.cells #[.slice A ws.length c, vm, va, vb, vc] 26)) := by (repeat (first | with_reducible exact Below.refl _ _ | assumption | refine Below.drew ?_ | refine below_drewN ?_ _ | refine Below.alloc ?_ (by first | omega | (simp; done) | (simp; omega)) _ | refine Below.setCell ?_ (by first | omega | (simp; done) | (simp; omega)) _))
  have HB := Lib.hid hb
  clear hb
  unfold wordD
  by_cases h0 : 0 ≤ id
  · by_cases h1 : id < 256
    · rw [wordOf_small h0 h1]
      have hcv := conv_byte ((w.alloc (Obj.cells #[.slice A ws.length c, vm, va, vb, vc] 26)).alloc (Obj.cells #[.int .u8 id] 5)) (w.heap.size + 1) id (by go_simp)
      go_enter Tryd.func115, Tryd.ntmps115
      go_wp2
      go_ret2
      exact ⟨rfl, HB.out.alloc (by simp) _⟩
    · by_cases h2 : id - 256 < ws.length
      · rw [wordOf_great (by omega) h2]
        obtain ⟨b, off, rfl, hc⟩ := HW.out.at_ (id - 256).toNat (by omega)
        have hbl : b < w.heap.size := World.block_lt_of_cell? _ _ hc
        have h3 : 256 ≤ id := by omega
        generalize wAt ws (id - 256).toNat = x at hc ⊢
        go_enter Tryd.func115, Tryd.ntmps115
        go_wp2
        go_ret2
        exact ⟨rfl, HB.out⟩
      · rw [wordOf_none (by omega)]
        have h3 : 256 ≤ id := by omega
        go_enter Tryd.func115, Tryd.ntmps115
        go_wp2
        go_ret2
        exact ⟨rfl, HB.out⟩
  · rw [wordOf_none (by omega)]
    go_enter Tryd.func115, Tryd.ntmps115
    go_wp2
    go_ret2
    exact ⟨rfl, HB.out⟩
/-- What a walk over boxed data knows of a later world: the box, and the result behind it. -/
structure C5 (w W : World) (vw vm va vb vc : Value) : Prop where
  below : Below w.heap.size w W
  size : w.heap.size + 2 ≤ W.heap.size
  d0 : W.cell? ⟨w.heap.size, 0, none⟩ = some vw
  d1 : W.cell? ⟨w.heap.size, 1, none⟩ = some vm
  d2 : W.cell? ⟨w.heap.size, 2, none⟩ = some va
  d3 : W.cell? ⟨w.heap.size, 3, none⟩ = some vb
  d4 : W.cell? ⟨w.heap.size, 4, none⟩ = some vc
  r0 : W.cell? ⟨w.heap.size + 1, 0, none⟩ = some (.int .i64 0)
  r1 : W.cell? ⟨w.heap.size + 1, 1, none⟩ = some (.int .i64 0)
  r2 : W.cell? ⟨w.heap.size + 1, 2, none⟩ = some (.int .i64 0)
  f0 : W.frozen? ⟨w.heap.size + 1, 0, none⟩ = false
  f1 : W.frozen? ⟨w.heap.size + 1, 1, none⟩ = false
  f2 : W.frozen? ⟨w.heap.size + 1, 2, none⟩ = false
theorem C5.then {w W W' : World} {vw vm va vb vc : Value} (h : C5 w W vw vm va vb vc) (hb : Below W.heap.size W W') : C5 w W' vw vm va vb vc := by
  have hs := hb.size
  have hz := h.size
  have fr : ∀ i, W'.frozen? ⟨w.heap.size + 1, i, none⟩ = W.frozen? ⟨w.heap.size + 1, i, none⟩ := fun i => hb.frozen (p := ⟨w.heap.size + 1, i, none⟩) (by show w.heap.size + 1 < _; omega)
  exact ⟨below_then h.below (by omega) hb, by omega, cell_below hb h.d0, cell_below hb h.d1, cell_below hb h.d2, cell_below hb h.d3, cell_below hb h.d4, cell_below hb h.r0, cell_below hb h.r1, cell_below hb h.r2, (fr 0).trans h.f0, (fr 1).trans h.f1, (fr 2).trans h.f2⟩
theorem C5.start (w : World) (vw vm va vb vc : Value) (t t' : TypeId) : C5 w ((w.alloc (Obj.cells #[vw, vm, va, vb, vc] t)).alloc (Obj.cells #[.int .i64 0, .int .i64 0, .int .i64 0] t')) vw vm va vb vc := by
  constructor
  · (repeat (first | with_reducible exact Below.refl _ _ | assumption | refine Below.drew ?_ | refine below_drewN ?_ _ | refine Below.alloc ?_ (by first | omega | (simp; done) | (simp; omega)) _ | refine Below.setCell ?_ (by first | omega | (simp; done) | (simp; omega)) _))
  all_goals (first | (go_simp; done) | (simp; done))
theorem toList_inj {a b : ByteArray} (h : a.toList = b.toList) : a = b := by
  rw [ByteArray.toList_eq, ByteArray.toList_eq] at h
  exact ByteArray.ext (Array.toList_inj.1 h)
theorem wordBad_21 {ws : List ByteArray} {i : Nat} (h : (wAt ws i).size < 2 ∨ 256 < (wAt ws i).size) : wordBad ws i = 21 := by unfold wordBad; rw [if_pos h]
theorem wordBad_22 {ws : List ByteArray} {i j : Nat} (h : 2 ≤ (wAt ws i).size) (h' : (wAt ws i).size ≤ 256) (hj : j < i) (he : wAt ws j = wAt ws i) (hk : ∀ k, k < j → decide (wAt ws k = wAt ws i) = false) : wordBad ws i = 22 := by
  unfold wordBad; rw [if_neg (by omega), firstOf_some hj (by simpa using he) hk]; rfl
theorem wordBad_0 {ws : List ByteArray} {i : Nat} (h : 2 ≤ (wAt ws i).size) (h' : (wAt ws i).size ≤ 256) (hk : ∀ k, k < i → decide (wAt ws k = wAt ws i) = false) : wordBad ws i = 0 := by
  unfold wordBad; rw [if_neg (by omega), firstOf_none hk]; rfl
theorem wordsL_at {ws : List ByteArray} {i b p q r : Nat} (he : wordsL ws = (p, q, r)) (hi : i < ws.length) (hb : wordBad ws i = b) (h0 : b ≠ 0) (h : ∀ j, j < i → wordBad ws j = 0) : p = b ∧ q = 4 ∧ r = i := by
  have := he.symm.trans (firstL_bad (p := wordBad ws) (l := 4) hi (by omega) h)
  simp only [Prod.mk.injEq] at this
  omega
set_option maxHeartbeats 4000000 in
set_option maxRecDepth 100000 in
theorem ref5_words (w : World) (vw vm va vb vc : Value) (ws : List ByteArray) (hW : StrsIn w vw ws) :
   Calls Tryd.prog 87 #[.agg #[vw, vm, va, vb, vc]] w fun e w' => e = .returned (.agg #[.int .i64 (((wordsL ws).1 : Nat) : Int), .int .i64 (((wordsL ws).2.1 : Nat) : Int), .int .i64 (((wordsL ws).2.2 : Nat) : Int)]) ∧ Below w.heap.size w w' := by
  obtain ⟨A, c, rfl⟩ := hW.form
  have hlen := hW.1
  have HW := Lib.hid hW
  clear hW
  obtain ⟨p, q, r, hck⟩ : ∃ p q r, wordsL ws = (p, q, r) := ⟨_, _, _, rfl⟩
  rw [hck]
  have HCK := Lib.hid hck
  clear hck
  go_enter Tryd.func87, Tryd.ntmps87
  go_wp2
  obtain ⟨W0, hW0, h4⟩ : ∃ W0, ((w.alloc (Obj.cells #[.slice A ws.length c, vm, va, vb, vc] 26)).alloc (Obj.cells #[.int .i64 0, .int .i64 0, .int .i64 0] 107)) = W0 ∧ C5 w W0 (.slice A ws.length c) vm va vb vc := ⟨_, rfl, C5.start _ _ _ _ _ _ _ _⟩
  rw [hW0]
  clear hW0
  have H4 := Lib.hid h4
  clear h4
  go_loopw [3, 4] (fun s _ W => ∃ i : Nat, i ≤ ws.length ∧ s = .int .i64 i ∧ (∀ j, j < i → wordBad ws j = 0) ∧ C5 w W (.slice A ws.length c) vm va vb vc) (fun s _ _ => ws.length - (intOf s).toNat)
  case atStart => exact ⟨0, Nat.zero_le _, rfl, by omega, H4.out⟩
  case round =>
    obtain ⟨i, hi, rfl, hj, h4⟩ := hrel
    have HJ := Lib.hid hj
    have H5 := Lib.hid h4
    clear hj
    obtain ⟨_, g1, g2, _, _, _, _, g3, g4, g5, g6, g7, g8⟩ := h4
    have G0 := Lib.hid H5.out.below
    by_cases hlt : i < ws.length
    · obtain ⟨b, off, rfl, hc⟩ := (HW.out.below G0.out).at_ i hlt
      have hsz := HW.out.2.1 i
      obtain ⟨x, hx⟩ : ∃ x, x = wAt ws i := ⟨_, rfl⟩
      rw [← hx] at hc hsz
      have HX := Lib.hid hx
      clear hx
      by_cases h2 : x.size < 2 ∨ 256 < x.size
      · obtain ⟨rfl, rfl, rfl⟩ := wordsL_at HCK.out hlt (wordBad_21 (by rw [← HX.out]; exact h2)) (by simp) HJ.out
        rcases h2 with h2 | h2
        · go_wp2
          refine bodyPost_ret (v := .agg #[.int .i64 21, .int .i64 4, .int .i64 r]) (by simp [results, Tryd.results87, go_sem, g3, g4, g5]) rfl ⟨rfl, ?_⟩
          have hg := G0.out
          (repeat (first | with_reducible exact Below.refl _ _ | assumption | refine Below.drew ?_ | refine below_drewN ?_ _ | refine Below.alloc ?_ (by first | omega | (simp; done) | (simp; omega)) _ | refine Below.setCell ?_ (by first | omega | (simp; done) | (simp; omega)) _))
        · go_wp2
          refine bodyPost_ret (v := .agg #[.int .i64 21, .int .i64 4, .int .i64 r]) (by simp [results, Tryd.results87, go_sem, g3, g4, g5]) rfl ⟨rfl, ?_⟩
          have hg := G0.out
          (repeat (first | with_reducible exact Below.refl _ _ | assumption | refine Below.drew ?_ | refine below_drewN ?_ _ | refine Below.alloc ?_ (by first | omega | (simp; done) | (simp; omega)) _ | refine Below.setCell ?_ (by first | omega | (simp; done) | (simp; omega)) _))
      · have h3 : 2 ≤ x.size := by omega
        have h4 : x.size ≤ 256 := by omega
        clear h2
        go_wp2
        go_loopw [4] (fun s W => ∃ j : Nat, j ≤ i ∧ s = .int .i64 j ∧ (∀ k, k < j → decide (wAt ws k = wAt ws i) = false) ∧ C5 w W (.slice (some ⟨b, off, none⟩) ws.length c) vm va vb vc) (fun s _ => i - (intOf s).toNat)
        case atStart => exact ⟨0, Nat.zero_le _, rfl, by omega, H5.out⟩
        case round =>
          clear g1 g2 g3 g4 g5 g6 g7 g8 hc G0
          obtain ⟨j, hj, rfl, hk, h4⟩ := hrel
          have HK := Lib.hid hk
          have H6 := Lib.hid h4
          clear hk
          obtain ⟨_, g1, g2, _, _, _, _, g3, g4, g5, g6, g7, g8⟩ := h4
          have G0 := Lib.hid H6.out.below
          by_cases hlt2 : j < i
          · obtain ⟨b', off', e, hc⟩ := (HW.out.below G0.out).at_ i hlt
            cases e
            obtain ⟨b', off', e, hc'⟩ := (HW.out.below G0.out).at_ j (by omega)
            cases e
            rw [← HX.out] at hc
            obtain ⟨y, hy⟩ : ∃ y, y = wAt ws j := ⟨_, rfl⟩
            rw [← hy] at hc'
            have HY := Lib.hid hy
            clear hy
            by_cases he : y = x
            · subst he
              obtain ⟨rfl, rfl, rfl⟩ := wordsL_at HCK.out hlt (wordBad_22 (by rw [← HX.out]; exact h3) (by rw [← HX.out]; exact h4) hlt2 (by rw [← HY.out, ← HX.out]) HK.out) (by simp) HJ.out
              go_wp2
              go_quiet (fail)
              go_wp2
              refine bodyPost_ret (v := .agg #[.int .i64 22, .int .i64 4, .int .i64 r]) (by simp [results, Tryd.results87, go_sem, g3, g4, g5]) rfl ⟨rfl, ?_⟩
              have hg := G0.out
              (repeat (first | with_reducible exact Below.refl _ _ | assumption | refine Below.drew ?_ | refine below_drewN ?_ _ | refine Below.alloc ?_ (by first | omega | (simp; done) | (simp; omega)) _ | refine Below.setCell ?_ (by first | omega | (simp; done) | (simp; omega)) _))
            · have hne : (y.toList == x.toList) = false := by rw [beq_eq_false_iff_ne]; exact fun h => he (toList_inj h)
              go_wp2
              go_quiet (fail)
              go_wp2
              go_roundw
              case rel =>
                refine ⟨j + 1, by omega, by go_num, fun k hk => ?_, H6.out.then (below_drewN (Below.refl _ _) _)⟩
                by_cases e : k = j
                · subst e; rw [← HY.out, ← HX.out]; simpa using he
                · exact HK.out k (by omega)
              case measure => simp [intOf]; omega
          · go_wp2
            go_roundw
            case rel =>
              refine ⟨i + 1, by omega, by go_num, fun j hj => ?_, H6.out⟩
              by_cases e : j = i
              · subst e; exact wordBad_0 (by rw [← HX.out]; exact h3) (by rw [← HX.out]; exact h4) fun k hk => HK.out k (by omega)
              · exact HJ.out j (by omega)
            case measure => simp [intOf]; omega
    · go_wp2
      have e := HCK.out.symm.trans (firstL_good (p := wordBad ws) (l := 4) fun j hj => HJ.out j (by omega))
      simp only [Prod.mk.injEq] at e
      obtain ⟨rfl, rfl, rfl⟩ := e
      refine bodyPost_ret (v := .agg #[.int .i64 0, .int .i64 0, .int .i64 0]) (by simp [results, Tryd.results87, go_sem, g3, g4, g5]) rfl ⟨rfl, ?_⟩
      have hg := G0.out
      (repeat (first | with_reducible exact Below.refl _ _ | assumption | refine Below.drew ?_ | refine below_drewN ?_ _ | refine Below.alloc ?_ (by first | omega | (simp; done) | (simp; omega)) _ | refine Below.setCell ?_ (by first | omega | (simp; done) | (simp; omega)) _))
end Go.Proofs.YtpfnmcgcpgcfjaaDoor
