/- Contract of model's words. -/
import Derived.Test.YtpfnmcgcpgcfjaaDoorUpd
import Derived.Test.YtpfnmcgcpgcfjaaDoorRef5
namespace Tess
open Go Go.RowKit
def longN (ws : List ByteArray) : Nat → Nat
  | 0 => 1
  | i + 1 => max (longN ws i) (wAt ws i).size
theorem longN_le (ws : List ByteArray) (h : ∀ i, (wAt ws i).size ≤ 140737488355328) : ∀ i, longN ws i ≤ 140737488355328
  | 0 => by show 1 ≤ _; omega
  | i + 1 => by have := longN_le ws h i; have := h i; show max _ _ ≤ _; omega
end Tess
namespace Go.Proofs.YtpfnmcgcpgcfjaaDoor
open Go.RowKit Tess
set_option maxHeartbeats 4000000 in
set_option maxRecDepth 100000 in
theorem model_words (w : World) (g t r : Nat) (vw vm va vb vc : Value) (ws : List ByteArray)
    (hg : w.heap[g]? = some (.cells #[vw, vm, va, vb, vc, .pointer (some ⟨t, 0, none⟩), .map (some r), .int .i64 1] 117 (0, 0)))
    (hW : StrsIn w vw ws) (hne : ∀ b, vw.ownBlock = some b → 0 < ws.length → b ≠ g ∧ b < w.heap.size) :
   Calls Tryd.prog 84 #[.pointer (some ⟨g, 0, none⟩)] w fun e w' => e = .returned (.tuple #[.int .i64 (((wordsL ws).2.2 : Nat) : Int), .int .i64 (((wordsL ws).1 : Nat) : Int)]) ∧ Upd (fun k => k = g) w w' ∧
     ∃ n : Nat, w'.heap[g]? = some (.cells #[vw, vm, va, vb, vc, .pointer (some ⟨t, 0, none⟩), .map (some r), .int .i64 n] 117 (0, 0)) ∧ ((wordsL ws).1 = 0 → n = longN ws ws.length) := by
  obtain ⟨A, c, rfl⟩ := hW.form
  have hlen := hW.1
  have HW := Lib.hid hW
  have HG := Lib.hid hg
  have HNE := Lib.hid hne
  have hc0 := (blk_cell hg 0).trans (rfl : _ = some (Value.slice A ws.length c))
  have hgl := blk_lt hg
  clear hW hg hne
  obtain ⟨p, q, rr, hck⟩ : ∃ p q rr, wordsL ws = (p, q, rr) := ⟨_, _, _, rfl⟩
  rw [hck]
  have HCK := Lib.hid hck
  clear hck
  have hmm := @run_makeMap Tryd.prog
  go_enter Tryd.func84, Tryd.ntmps84
  go_wp2
  have hz : ∀ w, (zeroValue 3).run Tryd.prog w = .ok (.int .i64 0) w := fun _ => by kernel_rfl
  go_loopw [16] (fun s W => ∃ i : Nat, i ≤ ws.length ∧ s = .int .i64 i ∧ (∀ j, j < i → wordBad ws j = 0) ∧ Upd (fun k => k = g) w W ∧ W.heap[w.heap.size]? = some (.map (seenOf ws i) i) ∧
      W.heap[g]? = some (.cells #[.slice A ws.length c, vm, va, vb, vc, .pointer (some ⟨t, 0, none⟩), .map (some r), .int .i64 (longN ws i)] 117 (0, 0))) (fun s _ => ws.length - (intOf s).toNat)
  case atStart => exact ⟨0, Nat.zero_le _, rfl, by omega, (Upd.refl _ _).alloc _, blk_new _ _, blk_old HG.out _⟩
  case round =>
    obtain ⟨i, hi, rfl, hj, hu, hm, hb⟩ := hrel
    have HJ := Lib.hid hj
    have HU := Lib.hid hu
    have HM := Lib.hid hm
    have HB := Lib.hid hb
    have hsz := hu.size
    have hml := blk_lt hm
    clear hj hu hm hb hc0
    by_cases hlt : i < ws.length
    · have hS := HW.out.same (SameAt.of_upd HU.out fun b hb => ⟨(HNE.out b hb (by omega)).2, (HNE.out b hb (by omega)).1⟩)
      obtain ⟨b, off, rfl, hc⟩ := hS.at_ i hlt
      have hxs := HW.out.2.1 i
      obtain ⟨x, hx⟩ : ∃ x, x = wAt ws i := ⟨_, rfl⟩
      have hlk := lookup_seen (P := Tryd.prog) Tryd.underlying191 Tryd.underlying9 hz wr w.heap.size ws i x HM.out
      rw [← hx] at hc hxs
      have HX := Lib.hid hx
      clear hx hS
      by_cases h2 : x.size < 2 ∨ 256 < x.size
      · obtain ⟨rfl, rfl, rfl⟩ := wordsL_at HCK.out hlt (wordBad_21 (by rw [← HX.out]; exact h2)) (by simp) HJ.out
        rcases h2 with h2 | h2
        · go_wp2
          go_ret2
          first | exact ⟨rfl, HU.out, _, HB.out, by simp⟩ | exact ⟨rfl, HU.out, _, HB.out⟩
        · go_wp2
          go_ret2
          first | exact ⟨rfl, HU.out, _, HB.out, by simp⟩ | exact ⟨rfl, HU.out, _, HB.out⟩
      · have h3 : 2 ≤ x.size := by omega
        have h4 : x.size ≤ 256 := by omega
        clear h2
        obtain ⟨o, ho⟩ : ∃ o, firstOf (fun j => decide (wAt ws j = x)) i = o := ⟨_, rfl⟩
        rw [ho] at hlk
        cases o with
        | some k =>
          have hkb := firstOf_inv ho
          have hw22 : wordBad ws i = 22 := wordBad_22 (j := k) (by rw [← HX.out]; exact h3) (by rw [← HX.out]; exact h4) hkb.1 (by rw [← HX.out]; simpa using hkb.2.1) (by rw [← HX.out]; exact hkb.2.2)
          obtain ⟨rfl, rfl, rfl⟩ := wordsL_at HCK.out hlt hw22 (by simp) HJ.out
          clear hkb hw22 ho
          go_wp2
          go_ret2
          first | exact ⟨rfl, HU.out, _, HB.out, by simp⟩ | exact ⟨rfl, HU.out, _, HB.out⟩
        | none =>
          have hw0 : wordBad ws i = 0 := wordBad_0 (by rw [← HX.out]; exact h3) (by rw [← HX.out]; exact h4) (by rw [← HX.out]; exact firstOf_inv_none ho)
          have hup : (Instr.mapUpdate 191 (.map (some w.heap.size)) (.string x) (.int .i64 (i : Nat))).run Tryd.prog wr = .ok () (put wr w.heap.size (.map (seenOf ws (i + 1)) (i + 1))) := by
            have := update_seen (P := Tryd.prog) Tryd.underlying191 Tryd.underlying9 wr w.heap.size ws i HM.out (by rw [← HX.out]; exact ho)
            rw [← HX.out] at this
            exact this
          have hu1 := HU.out.put (.inr (Nat.le_refl _)) (Obj.map (seenOf ws (i + 1)) (i + 1))
          have hm1 := put_same wr w.heap.size (Obj.map (seenOf ws (i + 1)) (i + 1)) hml
          have hb1 := (put_other wr w.heap.size (Obj.map (seenOf ws (i + 1)) (i + 1)) g (by omega)).trans HB.out
          generalize put wr w.heap.size (Obj.map (seenOf ws (i + 1)) (i + 1)) = W1 at hup hu1 hm1 hb1
          have c7 := (blk_cell hb1 7).trans (rfl : _ = some (Value.int .i64 (longN ws i)))
          have f7 := blk_free hb1 7
          have hl7 := longN_le ws HW.out.2.1 i
          have hnew : longN ws (i + 1) = max (longN ws i) x.size := by rw [HX.out]; rfl
          have HW0 := Lib.hid hw0
          have HU1 := Lib.hid hu1
          have HM1 := Lib.hid hm1
          have HB1 := Lib.hid hb1
          have HNEW := Lib.hid hnew
          have hml1 := blk_lt hm1
          clear hw0 hu1 hm1 hb1 hnew ho
          obtain ⟨lg, hlg⟩ : ∃ lg, longN ws i = lg := ⟨_, rfl⟩
          rw [hlg] at c7 hl7
          have HLG := Lib.hid hlg
          clear hlg
          have fin : ∀ v : Nat, v = max lg x.size → ∀ j : Nat, j = i + 1 → (∃ i_1 : Nat, i_1 ≤ ws.length ∧ Value.int IntKind.i64 ((j : Nat) : Int) = Value.int IntKind.i64 (i_1 : Nat) ∧ (∀ (j : Nat), j < i_1 → wordBad ws j = 0) ∧
              Upd (fun k => k = g) w (W1.setCell ⟨g, 7, none⟩ (Value.int IntKind.i64 (v : Nat))) ∧ (W1.setCell ⟨g, 7, none⟩ (Value.int IntKind.i64 (v : Nat))).heap[w.heap.size]? = some (.map (seenOf ws i_1) i_1) ∧
              (W1.setCell ⟨g, 7, none⟩ (Value.int IntKind.i64 (v : Nat))).heap[g]? = some (.cells #[.slice (some ⟨b, off, none⟩) ws.length c, vm, va, vb, vc, .pointer (some ⟨t, 0, none⟩), .map (some r), .int .i64 (longN ws i_1)] 117 (0, 0))) := by
            rintro v hv j rfl
            refine ⟨i + 1, by omega, rfl, fun j hj => ?_, HU1.out.setCell (.inl rfl) _, blk_other HM1.out _ _ (by show w.heap.size ≠ g; omega), ?_⟩
            · by_cases e : j = i
              · subst e; exact HW0.out
              · exact HJ.out j (by omega)
            · rw [blk_set HB1.out 7, HNEW.out, HLG.out, ← hv]
              simp
          have FIN := Lib.hid fin
          clear fin
          by_cases hmx : lg < x.size
          · go_wp2
            exact ⟨FIN.out x.size (by omega) (i + 1) rfl, by simp [intOf]; omega⟩
          · go_wp2
            exact ⟨FIN.out lg (by omega) (i + 1) rfl, by simp [intOf]; omega⟩
    · go_wp2
      have e := HCK.out.symm.trans (firstL_good (p := wordBad ws) (l := 4) fun j hj => HJ.out j (by omega))
      simp only [Prod.mk.injEq] at e
      obtain ⟨rfl, rfl, rfl⟩ := e
      obtain rfl : i = ws.length := by omega
      go_ret2
      exact ⟨rfl, HU.out, _, HB.out, fun _ => rfl⟩
end Go.Proofs.YtpfnmcgcpgcfjaaDoor
