/- Contracts of the reference's chapter 5: merges. -/
import Derived.Test.YtpfnmcgcpgcfjaaDoorRef5
namespace Go.Proofs.YtpfnmcgcpgcfjaaDoor
open Go.RowKit Tess
theorem mergesL_at {ws : List ByteArray} {ms : List Mg} {i b p q r : Nat} (he : mergesL ws ms = (p, q, r)) (hi : i < ms.length) (hb : mergeBad ws ms i = b) (h0 : b ≠ 0) (h : ∀ j, j < i → mergeBad ws ms j = 0) : p = b ∧ q = 5 ∧ r = i := by
  have := he.symm.trans (firstL_bad (p := mergeBad ws ms) (l := 5) hi (by omega) h)
  simp only [Prod.mk.injEq] at this
  omega
theorem mergeBad_24 {ws : List ByteArray} {ms : List Mg} {i : Nat} (h : mI ms i < 256 ∨ (ws.length : Int) ≤ mI ms i - 256 ∨ madeB ms i (mI ms i) = true) : mergeBad ws ms i = 24 := by unfold mergeBad; rw [if_pos h]
theorem mergeBad_23 {ws : List ByteArray} {ms : List Mg} {i : Nat} (h1 : 256 ≤ mI ms i) (h2 : mI ms i - 256 < ws.length) (h3 : madeB ms i (mI ms i) = false) (h : madeB ms i (mL ms i) = false ∨ madeB ms i (mR ms i) = false) : mergeBad ws ms i = 23 := by
  unfold mergeBad; rw [if_neg (by rw [h3]; simp; omega), if_pos h]
theorem mergeBad_25 {ws : List ByteArray} {ms : List Mg} {i : Nat} (h1 : 256 ≤ mI ms i) (h2 : mI ms i - 256 < ws.length) (h3 : madeB ms i (mI ms i) = false) (h4 : madeB ms i (mL ms i) = true) (h5 : madeB ms i (mR ms i) = true) (h : wAt ws (mI ms i - 256).toNat ≠ wordD ws (mL ms i) ++ wordD ws (mR ms i)) : mergeBad ws ms i = 25 := by
  unfold mergeBad; rw [if_neg (by rw [h3]; simp; omega), if_neg (by rw [h4, h5]; simp), if_pos h]
theorem mergeBad_22 {ws : List ByteArray} {ms : List Mg} {i j : Nat} (h1 : 256 ≤ mI ms i) (h2 : mI ms i - 256 < ws.length) (h3 : madeB ms i (mI ms i) = false) (h4 : madeB ms i (mL ms i) = true) (h5 : madeB ms i (mR ms i) = true) (h : wAt ws (mI ms i - 256).toNat = wordD ws (mL ms i) ++ wordD ws (mR ms i))
    (hj : j < i) (he : (mL ms j == mL ms i && mR ms j == mR ms i) = true) (hk : ∀ k, k < j → (mL ms k == mL ms i && mR ms k == mR ms i) = false) : mergeBad ws ms i = 22 := by
  unfold mergeBad; rw [if_neg (by rw [h3]; simp; omega), if_neg (by rw [h4, h5]; simp), if_neg (by rw [h]; simp), firstOf_some hj he hk]; rfl
theorem mergeBad_0 {ws : List ByteArray} {ms : List Mg} {i : Nat} (h1 : 256 ≤ mI ms i) (h2 : mI ms i - 256 < ws.length) (h3 : madeB ms i (mI ms i) = false) (h4 : madeB ms i (mL ms i) = true) (h5 : madeB ms i (mR ms i) = true) (h : wAt ws (mI ms i - 256).toNat = wordD ws (mL ms i) ++ wordD ws (mR ms i))
    (hk : ∀ k, k < i → (mL ms k == mL ms i && mR ms k == mR ms i) = false) : mergeBad ws ms i = 0 := by
  unfold mergeBad; rw [if_neg (by rw [h3]; simp; omega), if_neg (by rw [h4, h5]; simp), if_neg (by rw [h]; simp), firstOf_none hk]; rfl
theorem wordD_size {ws : List ByteArray} (h : ∀ i, (wAt ws i).size ≤ 140737488355328) (id : Int) : (wordD ws id).size ≤ 140737488355328 := by
  unfold wordD wordOf
  split
  · show 1 ≤ _; omega
  · split
    · exact h _
    · show 0 ≤ _; omega
/-- The same, and a merge in a block of its own. -/
structure C5m (w W : World) (vw vm va vb vc : Value) (g : Nat) (l r id : Int) : Prop where
  c5 : C5 w W vw vm va vb vc
  lt : g < W.heap.size
  x0 : W.cell? ⟨g, 0, none⟩ = some (.int .i64 l)
  x1 : W.cell? ⟨g, 1, none⟩ = some (.int .i64 r)
  x2 : W.cell? ⟨g, 2, none⟩ = some (.int .i64 id)
theorem C5m.then {w W W' : World} {vw vm va vb vc : Value} {g : Nat} {l r id : Int} (h : C5m w W vw vm va vb vc g l r id) (hb : Below W.heap.size W W') : C5m w W' vw vm va vb vc g l r id :=
  ⟨h.c5.then hb, by have := hb.size; have := h.lt; omega, cell_below hb h.x0, cell_below hb h.x1, cell_below hb h.x2⟩
set_option maxHeartbeats 16000000 in
set_option maxRecDepth 100000 in
theorem ref5_merges (w : World) (vw vm va vb vc : Value) (ws : List ByteArray) (ms : List Mg) (hW : StrsIn w vw ws) (hM : MergesIn w vm ms) :
   Calls Tryd.prog 88 #[.agg #[vw, vm, va, vb, vc]] w fun e w' => e = .returned (.agg #[.int .i64 (((mergesL ws ms).1 : Nat) : Int), .int .i64 (((mergesL ws ms).2.1 : Nat) : Int), .int .i64 (((mergesL ws ms).2.2 : Nat) : Int)]) ∧ Below w.heap.size w w' := by
  obtain ⟨A, c, rfl⟩ := hW.form
  obtain ⟨A', c', rfl⟩ := hM.form
  have hlen := hW.1
  have hlen' := hM.1
  have HW := Lib.hid hW
  have HM := Lib.hid hM
  clear hW hM
  obtain ⟨p, q, r, hck⟩ : ∃ p q r, mergesL ws ms = (p, q, r) := ⟨_, _, _, rfl⟩
  rw [hck]
  have HCK := Lib.hid hck
  clear hck
  go_enter Tryd.func88, Tryd.ntmps88
  go_wp2
  obtain ⟨W0, hW0, h4⟩ : ∃ W0, ((w.alloc (Obj.cells #[.slice A ws.length c, .slice A' ms.length c', va, vb, vc] 26)).alloc (Obj.cells #[.int .i64 0, .int .i64 0, .int .i64 0] 107)) = W0 ∧ C5 w W0 (.slice A ws.length c) (.slice A' ms.length c') va vb vc := ⟨_, rfl, C5.start _ _ _ _ _ _ _ _⟩
  rw [hW0]
  clear hW0
  have H4 := Lib.hid h4
  clear h4
  go_loopw [3] (fun s W => ∃ i : Nat, i ≤ ms.length ∧ s = .int .i64 i ∧ (∀ j, j < i → mergeBad ws ms j = 0) ∧ C5 w W (.slice A ws.length c) (.slice A' ms.length c') va vb vc) (fun s _ => ms.length - (intOf s).toNat)
  case atStart => exact ⟨0, Nat.zero_le _, rfl, by omega, H4.out⟩
  case round =>
    obtain ⟨i, hi, rfl, hj, h4⟩ := hrel
    have HJ := Lib.hid hj
    have H5 := Lib.hid h4
    clear hj
    obtain ⟨_, g1, g2, g2', _, _, _, g3, g4, g5, g6, g7, g8⟩ := h4
    have G0 := Lib.hid H5.out.below
    by_cases hlt : i < ms.length
    · obtain ⟨b, off, rfl, hc1, hc2, hc3⟩ := (HM.out.below G0.out).at_ i hlt
      obtain ⟨⟨bl1, bl2⟩, ⟨br1, br2⟩, ⟨bi1, bi2⟩⟩ := HM.out.2.1 i
      obtain ⟨l, hl⟩ : ∃ x, x = mL ms i := ⟨_, rfl⟩
      obtain ⟨rr, hr⟩ : ∃ x, x = mR ms i := ⟨_, rfl⟩
      obtain ⟨id, hid⟩ : ∃ x, x = mI ms i := ⟨_, rfl⟩
      rw [← hl] at hc1 bl1 bl2
      rw [← hr] at hc2 br1 br2
      rw [← hid] at hc3 bi1 bi2
      have HL := Lib.hid hl
      have HR := Lib.hid hr
      have HI := Lib.hid hid
      clear hl hr hid
      have hxx : C5m w (wr.alloc (Obj.cells #[.int .i64 l, .int .i64 rr, .int .i64 id] 133)) (.slice A ws.length c) (.slice (some ⟨b, off, none⟩) ms.length c') va vb vc wr.heap.size l rr id :=
        ⟨H5.out.then ((Below.refl _ _).alloc (Nat.le_refl _) _), by simp, by go_simp, by go_simp, by go_simp⟩
      have HX := Lib.hid hxx
      clear hxx
      have gs0 : w.heap.size < wr.heap.size := by omega
      have gs1 : w.heap.size + 1 < wr.heap.size := by omega
      by_cases h1 : id < 256
      · obtain ⟨rfl, rfl, rfl⟩ := mergesL_at HCK.out hlt (mergeBad_24 (.inl (by rw [← HI.out]; exact h1))) (by simp) HJ.out
        go_wp2
        refine bodyPost_ret (v := .agg #[.int .i64 24, .int .i64 5, .int .i64 r]) (by simp [results, Tryd.results88, go_sem, g3, g4, g5, gs1]) rfl ⟨rfl, ?_⟩
        have hg := G0.out
        (repeat (first | with_reducible exact Below.refl _ _ | assumption | refine Below.drew ?_ | refine below_drewN ?_ _ | refine Below.alloc ?_ (by first | omega | (simp; done) | (simp; omega)) _ | refine Below.setCell ?_ (by first | omega | (simp; done) | (simp; omega)) _))
      by_cases h2 : (ws.length : Int) ≤ id - 256
      · obtain ⟨rfl, rfl, rfl⟩ := mergesL_at HCK.out hlt (mergeBad_24 (.inr (.inl (by rw [← HI.out]; exact h2)))) (by simp) HJ.out
        go_wp2
        refine bodyPost_ret (v := .agg #[.int .i64 24, .int .i64 5, .int .i64 r]) (by simp [results, Tryd.results88, go_sem, g3, g4, g5, gs1]) rfl ⟨rfl, ?_⟩
        have hg := G0.out
        (repeat (first | with_reducible exact Below.refl _ _ | assumption | refine Below.drew ?_ | refine below_drewN ?_ _ | refine Below.alloc ?_ (by first | omega | (simp; done) | (simp; omega)) _ | refine Below.setCell ?_ (by first | omega | (simp; done) | (simp; omega)) _))
      go_wp2_with fail
      have h1' : 256 ≤ id := by omega
      have h2' : id - 256 < (ws.length : Int) := by omega
      clear h1 h2
      refine (ref5_made _ _ _ _ _ _ ms i id (HM.out.below HX.out.c5.below) (by omega)).mono ?_
      rintro e w2 ⟨rfl, hb2⟩
      clear hc1 hc2 hc3
      have hx := HX.out.then hb2
      have HX := Lib.hid hx
      clear hb2 g1 g2 g2' g3 g4 g5 g6 g7 g8 gs0 gs1
      obtain ⟨h4, k1, k2, k3, k4⟩ := hx
      have H5 := Lib.hid h4
      obtain ⟨_, g1, g2, g2', _, _, _, g3, g4, g5, g6, g7, g8⟩ := h4
      have G0 := Lib.hid H5.out.below
      have gs0 : w.heap.size < w2.heap.size := by omega
      have gs1 : w.heap.size + 1 < w2.heap.size := by omega
      cases q3 : madeB ms i id
      case true =>
        obtain ⟨rfl, rfl, rfl⟩ := mergesL_at HCK.out hlt (mergeBad_24 (.inr (.inr (by rw [← HI.out]; exact q3)))) (by simp) HJ.out
        go_wp2
        refine bodyPost_ret (v := .agg #[.int .i64 24, .int .i64 5, .int .i64 r]) (by simp [results, Tryd.results88, go_sem, g3, g4, g5]) rfl ⟨rfl, ?_⟩
        have hg := G0.out
        (repeat (first | with_reducible exact Below.refl _ _ | assumption | refine Below.drew ?_ | refine below_drewN ?_ _ | refine Below.alloc ?_ (by first | omega | (simp; done) | (simp; omega)) _ | refine Below.setCell ?_ (by first | omega | (simp; done) | (simp; omega)) _))
      have Q3 := Lib.hid q3
      clear q3
      go_wp2_with fail
      refine (ref5_made _ _ _ _ _ _ ms i l (HM.out.below HX.out.c5.below) (by omega)).mono ?_
      rintro e w2 ⟨rfl, hb2⟩
      clear k1 k2 k3 k4
      have hx := HX.out.then hb2
      have HX := Lib.hid hx
      clear hb2 g1 g2 g2' g3 g4 g5 g6 g7 g8 gs0 gs1
      obtain ⟨h4, k1, k2, k3, k4⟩ := hx
      have H5 := Lib.hid h4
      obtain ⟨_, g1, g2, g2', _, _, _, g3, g4, g5, g6, g7, g8⟩ := h4
      have G0 := Lib.hid H5.out.below
      have gs0 : w.heap.size < w2.heap.size := by omega
      have gs1 : w.heap.size + 1 < w2.heap.size := by omega
      cases q4 : madeB ms i l
      case false =>
        obtain ⟨rfl, rfl, rfl⟩ := mergesL_at HCK.out hlt (mergeBad_23 (by rw [← HI.out]; exact h1') (by rw [← HI.out]; exact h2') (by rw [← HI.out]; exact Q3.out) (.inl (by rw [← HL.out]; exact q4))) (by simp) HJ.out
        go_wp2
        refine bodyPost_ret (v := .agg #[.int .i64 23, .int .i64 5, .int .i64 r]) (by simp [results, Tryd.results88, go_sem, g3, g4, g5]) rfl ⟨rfl, ?_⟩
        have hg := G0.out
        (repeat (first | with_reducible exact Below.refl _ _ | assumption | refine Below.drew ?_ | refine below_drewN ?_ _ | refine Below.alloc ?_ (by first | omega | (simp; done) | (simp; omega)) _ | refine Below.setCell ?_ (by first | omega | (simp; done) | (simp; omega)) _))
      have Q4 := Lib.hid q4
      clear q4
      go_wp2_with fail
      refine (ref5_made _ _ _ _ _ _ ms i rr (HM.out.below HX.out.c5.below) (by omega)).mono ?_
      rintro e w2 ⟨rfl, hb2⟩
      clear k1 k2 k3 k4
      have hx := HX.out.then hb2
      have HX := Lib.hid hx
      clear hb2 g1 g2 g2' g3 g4 g5 g6 g7 g8 gs0 gs1
      obtain ⟨h4, k1, k2, k3, k4⟩ := hx
      have H5 := Lib.hid h4
      obtain ⟨_, g1, g2, g2', _, _, _, g3, g4, g5, g6, g7, g8⟩ := h4
      have G0 := Lib.hid H5.out.below
      have gs0 : w.heap.size < w2.heap.size := by omega
      have gs1 : w.heap.size + 1 < w2.heap.size := by omega
      cases q5 : madeB ms i rr
      case false =>
        obtain ⟨rfl, rfl, rfl⟩ := mergesL_at HCK.out hlt (mergeBad_23 (by rw [← HI.out]; exact h1') (by rw [← HI.out]; exact h2') (by rw [← HI.out]; exact Q3.out) (.inr (by rw [← HR.out]; exact q5))) (by simp) HJ.out
        go_wp2
        refine bodyPost_ret (v := .agg #[.int .i64 23, .int .i64 5, .int .i64 r]) (by simp [results, Tryd.results88, go_sem, g3, g4, g5]) rfl ⟨rfl, ?_⟩
        have hg := G0.out
        (repeat (first | with_reducible exact Below.refl _ _ | assumption | refine Below.drew ?_ | refine below_drewN ?_ _ | refine Below.alloc ?_ (by first | omega | (simp; done) | (simp; omega)) _ | refine Below.setCell ?_ (by first | omega | (simp; done) | (simp; omega)) _))
      have Q5 := Lib.hid q5
      clear q5
      go_wp2_with fail
      refine (ref5_Word _ _ _ _ _ _ ws l (HW.out.below HX.out.c5.below) ⟨bl1, bl2⟩).mono ?_
      rintro e w2 ⟨rfl, hb2⟩
      clear k1 k2 k3 k4
      have hx := HX.out.then hb2
      have HX := Lib.hid hx
      clear hb2 g1 g2 g2' g3 g4 g5 g6 g7 g8 gs0 gs1
      obtain ⟨h4, k1, k2, k3, k4⟩ := hx
      have H5 := Lib.hid h4
      obtain ⟨_, g1, g2, g2', _, _, _, g3, g4, g5, g6, g7, g8⟩ := h4
      have G0 := Lib.hid H5.out.below
      have gs0 : w.heap.size < w2.heap.size := by omega
      have gs1 : w.heap.size + 1 < w2.heap.size := by omega
      go_wp2_with fail
      refine (ref5_Word _ _ _ _ _ _ ws rr (HW.out.below HX.out.c5.below) ⟨br1, br2⟩).mono ?_
      rintro e w2 ⟨rfl, hb2⟩
      clear k1 k2 k3 k4
      have hx := HX.out.then hb2
      have HX := Lib.hid hx
      clear hb2 g1 g2 g2' g3 g4 g5 g6 g7 g8 gs0 gs1
      obtain ⟨h4, k1, k2, k3, k4⟩ := hx
      have H5 := Lib.hid h4
      obtain ⟨_, g1, g2, g2', _, _, _, g3, g4, g5, g6, g7, g8⟩ := h4
      have G0 := Lib.hid H5.out.below
      have gs0 : w.heap.size < w2.heap.size := by omega
      have gs1 : w.heap.size + 1 < w2.heap.size := by omega
      obtain ⟨b2, off2, rfl, hcw⟩ := (HW.out.below HX.out.c5.below).at_ (id - 256).toNat (by omega)
      have hsz := HW.out.2.1 (id - 256).toNat
      obtain ⟨x, hx⟩ : ∃ x, x = wAt ws (id - 256).toNat := ⟨_, rfl⟩
      obtain ⟨y, hy⟩ : ∃ y, y = wordD ws l := ⟨_, rfl⟩
      obtain ⟨z, hz⟩ : ∃ z, z = wordD ws rr := ⟨_, rfl⟩
      rw [← hx] at hcw hsz
      have hsy : y.size ≤ 140737488355328 := by rw [hy]; exact wordD_size HW.out.2.1 _
      have hsw : z.size ≤ 140737488355328 := by rw [hz]; exact wordD_size HW.out.2.1 _
      have hss : y.size + z.size ≤ 9223372036854775807 := by omega
      rw [← hy, ← hz]
      have HXW := Lib.hid hx
      have HY := Lib.hid hy
      have HZ := Lib.hid hz
      clear hx hy hz
      by_cases he : x = y ++ z
      · have hne : (x.toList == (y ++ z).toList) = true := by rw [he]; exact beq_self_eq_true _
        go_wp2
        go_loopw [9] (fun s W => ∃ j : Nat, j ≤ i ∧ s = .int .i64 j ∧ (∀ k, k < j → (mL ms k == l && mR ms k == rr) = false) ∧ C5m w W (.slice (some ⟨b2, off2, none⟩) ws.length c) (.slice (some ⟨b, off, none⟩) ms.length c') va vb vc wr.heap.size l rr id) (fun s _ => i - (intOf s).toNat)
        case atStart => exact ⟨0, Nat.zero_le _, rfl, by omega, HX.out⟩
        case round =>
          clear g1 g2 g2' g3 g4 g5 g6 g7 g8 k1 k2 k3 k4 gs0 gs1 hcw G0
          obtain ⟨j, hj, rfl, hk, hx⟩ := hrel
          have HK := Lib.hid hk
          have HX2 := Lib.hid hx
          clear hk
          obtain ⟨h4, k1, k2, k3, k4⟩ := hx
          obtain ⟨_, g1, g2, g2', _, _, _, g3, g4, g5, g6, g7, g8⟩ := h4
          have G0 := Lib.hid HX2.out.c5.below
          have m1 : 256 ≤ mI ms i := by rw [← HI.out]; exact h1'
          have m2 : mI ms i - 256 < ws.length := by rw [← HI.out]; exact h2'
          have m3 : madeB ms i (mI ms i) = false := by rw [← HI.out]; exact Q3.out
          have m4 : madeB ms i (mL ms i) = true := by rw [← HL.out]; exact Q4.out
          have m5 : madeB ms i (mR ms i) = true := by rw [← HR.out]; exact Q5.out
          have m6 : wAt ws (mI ms i - 256).toNat = wordD ws (mL ms i) ++ wordD ws (mR ms i) := by rw [← HI.out, ← HL.out, ← HR.out, ← HXW.out, ← HY.out, ← HZ.out]; exact he
          by_cases hlt2 : j < i
          · obtain ⟨b3, off3, e, hd1, hd2, _⟩ := (HM.out.below G0.out).at_ j (by omega)
            cases e
            obtain ⟨jl, hjl⟩ : ∃ x, x = mL ms j := ⟨_, rfl⟩
            obtain ⟨jr, hjr⟩ : ∃ x, x = mR ms j := ⟨_, rfl⟩
            rw [← hjl] at hd1
            rw [← hjr] at hd2
            have HJL := Lib.hid hjl
            have HJR := Lib.hid hjr
            have yes : (jl == l && jr == rr) = true → mergeBad ws ms i = 22 := fun h => mergeBad_22 m1 m2 m3 m4 m5 m6 hlt2 (by rw [← hjl, ← hjr, ← HL.out, ← HR.out]; exact h) (fun k hk => by rw [← HL.out, ← HR.out]; exact HK.out k hk)
            have no : (jl == l && jr == rr) = false → ∀ k, k < j + 1 → (mL ms k == l && mR ms k == rr) = false := by
              intro h k hk
              by_cases e : k = j
              · subst e; rw [← hjl, ← hjr]; exact h
              · exact HK.out k (by omega)
            have YES := Lib.hid yes
            have NO := Lib.hid no
            clear hjl hjr yes no m1 m2 m3 m4 m5 m6
            by_cases e1 : jl = l
            · have b1 : (jl == l) = true := by simpa using e1
              by_cases e2 : jr = rr
              · have b2 : (jr == rr) = true := by simpa using e2
                have y22 := YES.out (by rw [b1, b2]; rfl)
                clear e1 e2
                obtain ⟨rfl, rfl, rfl⟩ := mergesL_at HCK.out hlt y22 (by simp) HJ.out
                clear y22
                go_wp2
                go_quiet (fail)
                go_wp2
                refine bodyPost_ret (v := .agg #[.int .i64 22, .int .i64 5, .int .i64 r]) (by simp [results, Tryd.results88, go_sem, g3, g4, g5]) rfl ⟨rfl, ?_⟩
                have hg := G0.out
                (repeat (first | with_reducible exact Below.refl _ _ | assumption | refine Below.drew ?_ | refine below_drewN ?_ _ | refine Below.alloc ?_ (by first | omega | (simp; done) | (simp; omega)) _ | refine Below.setCell ?_ (by first | omega | (simp; done) | (simp; omega)) _))
              · have b2 : (jr == rr) = false := by simpa using e2
                have NO2 := Lib.hid (NO.out (by rw [b1, b2]; rfl))
                clear e1 e2
                go_wp2
                go_quiet (fail)
                go_wp2
                go_roundw
                case rel => exact ⟨j + 1, by omega, by go_num, NO2.out, HX2.out.then (below_drewN (Below.refl _ _) _)⟩
                case measure => simp [intOf]; omega
            · have b1 : (jl == l) = false := by simpa using e1
              have NO2 := Lib.hid (NO.out (by rw [b1]; rfl))
              clear e1
              go_wp2
              go_quiet (fail)
              go_wp2
              go_roundw
              case rel => exact ⟨j + 1, by omega, by go_num, NO2.out, HX2.out.then (below_drewN (Below.refl _ _) _)⟩
              case measure => simp [intOf]; omega
          · have hz := mergeBad_0 m1 m2 m3 m4 m5 m6 (fun k hk => by rw [← HL.out, ← HR.out]; exact HK.out k (by omega))
            have HZ0 := Lib.hid hz
            clear hz m1 m2 m3 m4 m5 m6
            go_wp2
            go_roundw
            case rel =>
              refine ⟨i + 1, by omega, by go_num, fun j hj => ?_, HX2.out.c5⟩
              by_cases e : j = i
              · subst e; exact HZ0.out
              · exact HJ.out j (by omega)
            case measure => simp [intOf]; omega
      · have hne : (x.toList == (y ++ z).toList) = false := by rw [beq_eq_false_iff_ne]; exact fun h => he (toList_inj h)
        obtain ⟨rfl, rfl, rfl⟩ := mergesL_at HCK.out hlt (mergeBad_25 (by rw [← HI.out]; exact h1') (by rw [← HI.out]; exact h2') (by rw [← HI.out]; exact Q3.out) (by rw [← HL.out]; exact Q4.out) (by rw [← HR.out]; exact Q5.out) (by rw [← HI.out, ← HL.out, ← HR.out, ← HXW.out, ← HY.out, ← HZ.out]; exact he)) (by simp) HJ.out
        go_wp2
        refine bodyPost_ret (v := .agg #[.int .i64 25, .int .i64 5, .int .i64 r]) (by simp [results, Tryd.results88, go_sem, g3, g4, g5]) rfl ⟨rfl, ?_⟩
        have hg := G0.out
        (repeat (first | with_reducible exact Below.refl _ _ | assumption | refine Below.drew ?_ | refine below_drewN ?_ _ | refine Below.alloc ?_ (by first | omega | (simp; done) | (simp; omega)) _ | refine Below.setCell ?_ (by first | omega | (simp; done) | (simp; omega)) _))
    · go_wp2
      have e := HCK.out.symm.trans (firstL_good (p := mergeBad ws ms) (l := 5) fun j hj => HJ.out j (by omega))
      simp only [Prod.mk.injEq] at e
      obtain ⟨rfl, rfl, rfl⟩ := e
      refine bodyPost_ret (v := .agg #[.int .i64 0, .int .i64 0, .int .i64 0]) (by simp [results, Tryd.results88, go_sem, g3, g4, g5]) rfl ⟨rfl, ?_⟩
      have hg := G0.out
      (repeat (first | with_reducible exact Below.refl _ _ | assumption | refine Below.drew ?_ | refine below_drewN ?_ _ | refine Below.alloc ?_ (by first | omega | (simp; done) | (simp; omega)) _ | refine Below.setCell ?_ (by first | omega | (simp; done) | (simp; omega)) _))
end Go.Proofs.YtpfnmcgcpgcfjaaDoor
