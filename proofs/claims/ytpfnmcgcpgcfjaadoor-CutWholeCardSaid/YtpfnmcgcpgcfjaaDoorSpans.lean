/- Contracts of package spans, and of the reference's chapter 3. -/
import Derived.Test.YtpfnmcgcpgcfjaaDoorProg
import Derived.Test.YtpfnmcgcpgcfjaaDoorWords
import Derived.Test.YtpfnmcgcpgcfjaaDoorPureSpans
import Derived.Test.YtpfnmcgcpgcfjaaDoorShelf
namespace Go.Proofs.YtpfnmcgcpgcfjaaDoor
open Go.RowKit Tess
theorem spans_find1 (w : World) (l : Sp) (A : Option Addr) (i : Nat) (r : Int) (n c : Nat) (p q : Nat) (hi' : i < n) (hA : SpansIn w (.slice A n c) l)
   (hp : w.cell? ⟨p, 0, none⟩ = some (.slice A n c)) (hq : w.cell? ⟨q, 0, none⟩ = some (.int .i32 r)) :
   Calls Tryd.prog 135 #[.int .i64 i, .pointer (some ⟨p,0,none⟩), .pointer (some ⟨q,0,none⟩)] w fun e w' => e = .returned (.bool (decide (hiAt l i ≥ r))) ∧ ∃ n, w' = w.drewN n := by
  obtain ⟨b, off, rfl, _, h2⟩ := hA.at_ i hi'
  obtain ⟨hm, A, c', e, _⟩ := hA
  cases e
  rw [show (l.getD i (0,0)).2 = hiAt l i from rfl] at h2
  generalize hiAt l i = hi at h2 ⊢
  go_enter Tryd.func135, Tryd.ntmps135
  go_wp2
  go_quiet (fail)
  go_wp2
  go_ret
  exact ⟨rfl, _, rfl⟩
set_option maxRecDepth 100000 in
set_option maxHeartbeats 1000000 in
theorem sort_Search (n : Nat) (cap : Array Value) (t : Nat → Bool) (w : World) (hn : n ≤ 4611686018427387903)
   (hc : ∀ W i, (∃ n, W = w.drewN n) → i < n → Calls Tryd.prog 135 (#[.int .i64 i] ++ cap) W fun e w' => e = .returned (.bool (t i)) ∧ ∃ n, w' = W.drewN n) :
   Calls Tryd.prog 134 #[.int .i64 n, .func (.func 135) #[] cap] w fun e w' => (∃ i : Nat, i ≤ n ∧ e = .returned (.int .i64 i) ∧ (0 < i → t (i-1) = false) ∧ (i < n → t i = true)) ∧ ∃ n, w' = w.drewN n := by
  have HC := Lib.hid hc; clear hc
  go_enter Tryd.func134, Tryd.ntmps134
  go_wp2
  go_loopw [5,6] (fun i j W => ∃ a b : Nat, i = .int .i64 a ∧ j = .int .i64 b ∧ a ≤ b ∧ b ≤ n ∧ (0 < a → t (a-1) = false) ∧ (b < n → t b = true) ∧ ∃ n, W = w.drewN n) (fun i j _ => (intOf j).toNat - (intOf i).toNat)
  case atStart => exact ⟨0, n, rfl, rfl, by omega, by omega, by omega, by omega, 0, rfl⟩
  case round =>
    obtain ⟨a, b, rfl, rfl, hab, hbn, h0, h1, k, rfl⟩ := hrel
    have H0 := Lib.hid h0; clear h0
    have H1 := Lib.hid h1; clear h1
    by_cases hlt : a < b
    · go_wp2_with fail
      obtain ⟨m, hm, hm1, hm2⟩ : ∃ m : Nat, ((a : Int) + b) / 2 = m ∧ a ≤ m ∧ m < b := ⟨(a + b) / 2, by omega, by omega, by omega⟩
      rw [hm]
      clear hm
      refine (HC.out _ m ⟨k, rfl⟩ (by omega)).mono ?_
      rintro e w' ⟨rfl, k', rfl⟩
      cases ht : t m
      · have HT := Lib.hid ht; clear ht
        go_wp2
        go_roundw
        case rel => exact ⟨m+1, b, by go_num, rfl, by omega, hbn, fun _ => HT.out, H1.out, _, rfl⟩
        case measure => simp [intOf]; omega
      · have HT := Lib.hid ht; clear ht
        go_wp2
        go_roundw
        case rel => exact ⟨a, m, rfl, rfl, by omega, by omega, H0.out, fun _ => HT.out, _, rfl⟩
        case measure => simp [intOf]; omega
    · go_wp2
      go_ret
      obtain rfl : a = b := by omega
      exact ⟨⟨a, hbn, rfl, H0.out, H1.out⟩, _, rfl⟩
set_option maxHeartbeats 400000 in
theorem spans_find (w : World) (v : Value) (l : Sp) (r : Int) (hA : SpansIn w v l) :
   Calls Tryd.prog 120 #[v, .int .i32 r] w fun e w' => (∃ i : Nat, e = .returned (.int .i64 i) ∧ FindAt l r i) ∧ Below w.heap.size w w' := by
  obtain ⟨A, c, rfl⟩ := hA.form
  have hlen := hA.1
  have HA := Lib.hid hA
  clear hA
  have hb2 : Below w.heap.size w ((w.alloc (Obj.cells #[Value.slice A (List.length l) c] 24)).alloc (Obj.cells #[Value.int IntKind.i32 r] 21)) := ((Below.refl _ _).alloc (Nat.le_refl _) _).alloc (by simp) _
  have hp : ((w.alloc (Obj.cells #[Value.slice A (List.length l) c] 24)).alloc (Obj.cells #[Value.int IntKind.i32 r] 21)).cell? ⟨w.heap.size, 0, none⟩ = some (Value.slice A (List.length l) c) := by go_simp
  have hq : ((w.alloc (Obj.cells #[Value.slice A (List.length l) c] 24)).alloc (Obj.cells #[Value.int IntKind.i32 r] 21)).cell? ⟨w.heap.size + 1, 0, none⟩ = some (Value.int IntKind.i32 r) := by go_simp
  generalize hw2 : (w.alloc (Obj.cells #[Value.slice A (List.length l) c] 24)).alloc (Obj.cells #[Value.int IntKind.i32 r] 21) = w2 at hb2 hp hq
  have HW2 := Lib.hid hw2
  clear hw2
  have hS : SpansIn w2 (.slice A l.length c) l := HA.out.below hb2
  have key : Calls Tryd.prog 134 #[.int .i64 l.length, .func (.func 135) #[] #[Value.pointer (some { block := w.heap.size, off := 0 }), Value.pointer (some { block := w.heap.size + 1, off := 0 })]] w2 fun e w' => (∃ i : Nat, e = .returned (.int .i64 i) ∧ FindAt l r i) ∧ Below w.heap.size w w' := by
    refine (sort_Search l.length _ (fun i => decide (hiAt l i ≥ r)) w2 (by omega) ?_).mono ?_
    · rintro W i ⟨n, rfl⟩ hi
      exact spans_find1 _ l A i r _ c _ _ hi (hS.drewN n) hp hq
    · rintro e w' ⟨⟨i, hi, rfl, h0, h1⟩, n, rfl⟩
      refine ⟨⟨i, rfl, hi, fun h => ?_, fun h => ?_⟩, below_drewN hb2 n⟩
      · have := h0 h; simp at this; omega
      · have := h1 h; simp at this; omega
  have KEY := Lib.hid key
  clear key hp hq hS hb2
  go_enter Tryd.func120, Tryd.ntmps120
  go_wp2_with fail
  rw [HW2.out]
  refine KEY.out.mono ?_
  rintro e w' ⟨⟨i, rfl, hi⟩, hb⟩
  have HI := Lib.hid hi
  clear hi
  go_wp2
  go_ret
  exact ⟨⟨i, rfl, HI.out⟩, hb⟩
/-- ValidRune. -/
theorem validRune_eq (r : Int) : Lib.validRune r = isRune r := by
  unfold Lib.validRune isRune
  rw [Bool.eq_iff_iff]
  simp
  omega
set_option maxHeartbeats 800000 in
theorem spans_In (w : World) (v : Value) (l : Sp) (r : Int) (hA : SpansIn w v l) (hR : RightL l) :
   Calls Tryd.prog 92 #[v, .int .i32 r] w fun e w' => e = .returned (.bool (inL l r)) ∧ Below w.heap.size w w' := by
  obtain ⟨A, c, rfl⟩ := hA.form
  have hlen := hA.1
  have HA := Lib.hid hA
  clear hA
  have F := spans_find w _ l r HA.out
  have HF := Lib.hid F
  clear F
  go_enter Tryd.func92, Tryd.ntmps92
  go_wp2_with fail
  refine HF.out.mono ?_
  rintro e w1 ⟨⟨i, rfl, hi⟩, hb⟩
  have V := Tryd.utf8_ValidRune r
  rw [validRune_eq] at V
  have HV := Lib.hid V
  clear V
  have hin := inL_find hR hi
  have hi0 := hi.1
  have HIN := Lib.hid hin
  have HB := Lib.hid hb
  clear hin hb hi HF
  go_wp2_with fail
  refine (HV.out _).mono ?_
  rintro e w2 ⟨rfl, rfl⟩
  clear HV
  cases hv : isRune r
  · have HN := Lib.hid hv
    clear hv
    go_wp2
    go_ret
    rw [HIN.out, HN.out]
    exact ⟨rfl, HB.out⟩
  · have HN := Lib.hid hv
    clear hv
    by_cases hlt : i < l.length
    · obtain ⟨b, off, rfl, hc, _⟩ := (HA.out.below HB.out).at_ i hlt
      rw [show (l.getD i (0,0)).1 = loAt l i from rfl] at hc
      obtain ⟨x, hx⟩ : ∃ x, x = loAt l i := ⟨_, rfl⟩
      rw [← hx] at hc HIN
      clear hx
      have hd : decide (i < l.length) = true := by simpa using hlt
      go_wp2
      go_ret
      rw [HIN.out, HN.out]
      exact ⟨by simp [hlt], HB.out⟩
    · have hd : decide (i < l.length) = false := by simpa using hlt
      go_wp2
      go_ret
      rw [HIN.out, HN.out]
      exact ⟨by simp [hlt], HB.out⟩
end Go.Proofs.YtpfnmcgcpgcfjaaDoor
