/- Contracts of few, cutAs, known: the statements' own helpers of chapter 12. -/
import Derived.Test.YtpfnmcgcpgcfjaaDoorHouse
namespace Tess
open Go Go.RowKit
/-- A slice of tokens. -/
def ToksIn (w : World) (v : Value) (l : List Tok) : Prop := RowIn w v l.length (l.flatMap tokCells)
def tkAt (l : List Tok) (i : Nat) : Tok := l.getD i ⟨0, 0, 0⟩
theorem ToksIn.of_owns {w : World} {base : Nat} {e : TypeId} {v : Value} {l : List Tok} (h : w.ownsRow base e 3 v l.length (l.flatMap tokCells)) : ToksIn w v l := by
  unfold ToksIn
  rcases h.2 with ⟨rfl, h0⟩ | ⟨g, cap, cur, rfl, _, hg, _, _, _, ht⟩
  · refine ⟨none, 0, by rw [h0], .inl ?_⟩
    have : l = [] := List.length_eq_zero_iff.1 h0
    rw [this]; rfl
  · refine ⟨_, _, rfl, .inr ⟨g, 0, rfl, fun j u hj => ?_⟩⟩
    rw [blk_cell hg, ← Array.getElem?_toList, Nat.zero_add]
    rw [← ht] at hj
    have hlt := (List.getElem?_eq_some_iff.1 hj).1
    rw [List.getElem?_take] at hj
    split at hj
    · exact hj
    · cases hj
theorem ToksIn.form {w : World} {v : Value} {l : List Tok} (h : ToksIn w v l) : ∃ A c, v = .slice A l.length c := ⟨h.choose, h.choose_spec.choose, h.choose_spec.choose_spec.1⟩
theorem ToksIn.at_ {w : World} {A : Option Addr} {n c : Nat} {l : List Tok} (h : ToksIn w (.slice A n c) l) (i : Nat) (hi : i < l.length) :
    ∃ b off, A = some ⟨b, off, none⟩ ∧ w.cell? ⟨b, off + i * 3, none⟩ = some (.int .i64 ((tkAt l i).a : Nat)) ∧ w.cell? ⟨b, off + i * 3 + 1, none⟩ = some (.int .i64 ((tkAt l i).b : Nat)) ∧ w.cell? ⟨b, off + i * 3 + 2, none⟩ = some (.int .i64 ((tkAt l i).s : Nat)) := by
  obtain ⟨A', c', hv, h⟩ := h
  cases hv
  rcases h with h | ⟨b, off, hA, hc⟩
  · have := congrArg List.length h
    rw [flat_length tokCells 3 (fun _ => rfl)] at this
    simp only [List.length_nil] at this; omega
  · refine ⟨b, off, hA, ?_⟩
    have hx := List.getElem?_eq_getElem hi
    have e0 := flat_get tokCells 3 (fun _ => rfl) l i 0 _ hx (by omega)
    have e1 := flat_get tokCells 3 (fun _ => rfl) l i 1 _ hx (by omega)
    have e2 := flat_get tokCells 3 (fun _ => rfl) l i 2 _ hx (by omega)
    rw [tkAt, getD_of hx]
    exact ⟨by simpa using hc _ _ e0, by simpa [Nat.add_assoc] using hc _ _ e1, by simpa [Nat.add_assoc] using hc _ _ e2⟩
theorem ToksIn.below {w w' : World} {v : Value} {l : List Tok} (h : ToksIn w v l) (hb : Below w.heap.size w w') : ToksIn w' v l := by
  obtain ⟨A, c, hv, h⟩ := h
  refine ⟨A, c, hv, ?_⟩
  rcases h with h | ⟨b, off, hA, hc⟩
  · exact .inl h
  · exact .inr ⟨b, off, hA, fun j u hj => cell_below hb (hc j u hj)⟩
end Tess
namespace Go.Proofs.YtpfnmcgcpgcfjaaDoor
open Go.RowKit Tess
set_option maxHeartbeats 1000000 in
theorem law12_few (w : World) (s : ByteArray) (n : Nat) (hn : n ≤ 100000) (hs : s.size ≤ 140737488355328) : Calls Tryd.prog 16 #[.string s, .int .i64 n] w fun e w' => e = .returned (.string (if n < s.size then s.extract 0 n else s)) ∧ w = w' := by
  by_cases h : n < s.size
  · rw [if_pos h]
    go_enter Tryd.func16, Tryd.ntmps16
    go_wp2
    go_ret
    exact ⟨rfl, rfl⟩
  · rw [if_neg h]
    go_enter Tryd.func16, Tryd.ntmps16
    go_wp2
    go_ret
    exact ⟨rfl, rfl⟩
set_option maxHeartbeats 16000000 in
set_option maxRecDepth 100000 in
theorem law12_cutAs (w : World) (s : ByteArray) (v : Value) (want : List ByteArray) (hs : s.size ≤ 1048576) (hT : Tabs w) (hW : StrsIn w v want) (hk : want.length = (tokens house s.data.toList).length)
    (hall : ∀ i, i < want.length → (tkAt (tokens house s.data.toList) i).a ≤ (tkAt (tokens house s.data.toList) i).b ∧ (tkAt (tokens house s.data.toList) i).b ≤ s.size ∧ s.extract (tkAt (tokens house s.data.toList) i).a (tkAt (tokens house s.data.toList) i).b = wAt want i) (hsm : want.length ≤ 100) :
    Calls Tryd.prog 58 #[.string s, v] w fun e w' => e = .returned (.bool true) ∧ Below w.heap.size w w' := by
  obtain ⟨A, c, rfl⟩ := hW.form
  obtain ⟨l, hl⟩ : ∃ l, tokens house s.data.toList = l := ⟨_, rfl⟩
  rw [hl] at hk hall
  have HALL := Lib.hid hall
  have HW := Lib.hid hW
  have HT := Lib.hid hT
  have HL := Lib.hid hl
  clear hall hW hT hl
  go_enter Tryd.func58, Tryd.ntmps58
  go_wp2_with fail
  refine (book_House w).mono ?_
  rintro e W1 ⟨vw, vm, va, vb, vc, rfl, hd, hb1⟩
  go_wp2_with fail
  refine (keep_Of W1 vw vm va vb vc house hd).mono ?_
  rintro e W2 ⟨hb2, ⟨g, _, rfl, hm⟩ | ⟨h | h, rfl⟩⟩
  case inr.inl => rw [house_large] at h; cases h
  case inr.inr => rw [house_check] at h; exact absurd rfl h
  have hb12 := hb1.trans (hb2.mono hb1.size)
  have HM := Lib.hid hm
  have HB := Lib.hid hb12
  clear hb1 hb2 hm hd hb12
  go_wp2_with fail
  refine (cut_Tokens W2 g house s hs HM.out (Tabs.keep HT.out HB.out HT.out.two)).mono ?_
  rw [HL.out]
  rintro e W3 ⟨u, rfl, hown, hb3⟩
  have ht := ToksIn.of_owns hown
  obtain ⟨tA, tc, rfl⟩ := ht.form
  have hw3 := HW.out.below (HB.out.trans (hb3.mono HB.out.size))
  have hb := HB.out.trans (hb3.mono HB.out.size)
  have HTK := Lib.hid ht
  have HW3 := Lib.hid hw3
  have HB3 := Lib.hid hb
  clear hown hb3 ht hw3 hb HB HM
  rw [← hk]
  have hne : ((want.length : Int) != (want.length : Int)) = false := by simp
  go_wp2_with fail
  go_loopw [10] (fun p W => ∃ i : Nat, i ≤ want.length ∧ p = .int .i64 i ∧ Below w.heap.size w W ∧ ToksIn W (.slice tA want.length tc) l ∧ StrsIn W (.slice A want.length c) want) (fun p _ => want.length - (intOf p).toNat)
  case atStart => exact ⟨0, Nat.zero_le _, rfl, HB3.out, by rw [hk]; exact HTK.out, HW3.out⟩
  case round =>
    obtain ⟨i, hi, rfl, hb, ht, hw⟩ := hrel
    have HB := Lib.hid hb
    have HTW := Lib.hid ht
    have HWW := Lib.hid hw
    clear hb ht hw HTK HW3 HB3
    by_cases hlt : i < want.length
    · obtain ⟨tb, toff, rfl, t1, t2, t3⟩ := HTW.out.at_ i (by omega)
      obtain ⟨b', off', rfl, hcx⟩ := HWW.out.at_ i hlt
      obtain ⟨q1, q2, q3⟩ := HALL.out i hlt
      obtain ⟨a, ha⟩ : ∃ a, (tkAt l i).a = a := ⟨_, rfl⟩
      obtain ⟨b, hb⟩ : ∃ a, (tkAt l i).b = a := ⟨_, rfl⟩
      rw [ha] at t1 q1 q3
      rw [hb] at t2 q1 q2 q3
      rw [← q3] at hcx
      clear ha hb t3 q3
      have hbl := World.block_lt_of_cell? _ _ t1
      have hbl' := World.block_lt_of_cell? _ _ hcx
      have d1 : decide ((a : Int) < 0) = false := by simp
      have d2 : decide (s.size < b) = false := by simp; omega
      have d3 : decide (b < a) = false := by simp; omega
      have d2' : decide ((s.size : Int) < (b : Int)) = false := by simp; omega
      have d3' : decide ((b : Int) < (a : Int)) = false := by simp; omega
      go_wp2_with fail
      go_quiet (fail)
      go_wp2
      exact ⟨⟨i + 1, by omega, by simp, below_drewN HB.out _, HTW.out.below (below_drewN (Below.refl _ _) _), HWW.out.below (below_drewN (Below.refl _ _) _)⟩, by simp [intOf]; omega⟩
    · obtain rfl : i = want.length := by omega
      go_wp2
      go_ret
      exact ⟨rfl, HB.out⟩
def wantA : List ByteArray := [⟨#[105, 116]⟩, ⟨#[39, 115]⟩, ⟨#[32, 49, 50]⟩, ⟨#[32]⟩, ⟨#[32, 111]⟩, ⟨#[39]⟩, ⟨#[99, 108, 111, 99, 107]⟩]
def wantB : List ByteArray := [⟨#[10]⟩, ⟨#[10]⟩, ⟨#[97]⟩]
theorem wantA_ok : ∀ i, i < wantA.length → (tkAt (tokens house knownA) i).a ≤ (tkAt (tokens house knownA) i).b ∧ (tkAt (tokens house knownA) i).b ≤ 16 ∧ (ByteArray.mk knownA.toArray).extract (tkAt (tokens house knownA) i).a (tkAt (tokens house knownA) i).b = wAt wantA i := by
  rw [knownA_tokens]
  decide +kernel
theorem wantB_ok : ∀ i, i < wantB.length → (tkAt (tokens house [10, 10, 97]) i).a ≤ (tkAt (tokens house [10, 10, 97]) i).b ∧ (tkAt (tokens house [10, 10, 97]) i).b ≤ 3 ∧ (ByteArray.mk #[10, 10, 97]).extract (tkAt (tokens house [10, 10, 97]) i).a (tkAt (tokens house [10, 10, 97]) i).b = wAt wantB i := by
  rw [knownB_tokens]
  decide +kernel
end Go.Proofs.YtpfnmcgcpgcfjaaDoor
