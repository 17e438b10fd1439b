/- Contracts of cut.All and of what it hands out. -/
import Derived.Test.YtpfnmcgcpgcfjaaDoorNext
namespace Tess
open Go Go.RowKit Go.Shelf
def tokA (d : Dat) (a : Nat) (l : List UInt8) : List Tok := tokF d l.length a l
theorem next_pos (d : Dat) (l : List UInt8) (h : l ≠ []) : 1 ≤ (next d l).1 ∧ (next d l).1 ≤ l.length ∧ 1 ≤ (next d l).2 ∧ (next d l).2 ≤ 5 := by
  have := next_ok d l h
  exact ⟨this.1, this.2.1, this.2.2.2.1, this.2.2.2.2.1⟩
theorem tokF_enough (d : Dat) : ∀ (f a : Nat) (l : List UInt8), l.length ≤ f → tokF d f a l = tokF d l.length a l := by
  intro f
  induction f using Nat.strongRecOn with
  | _ f ih =>
    intro a l h
    cases l with
    | nil => cases f <;> simp [tokF]
    | cons b t =>
      obtain ⟨f, rfl⟩ : ∃ k, f = k + 1 := ⟨f - 1, by simp at h; omega⟩
      have hp := (next_pos d (b :: t) (by simp)).1
      show tokF d (f + 1) a (b :: t) = tokF d (t.length + 1) a (b :: t)
      simp only [tokF, reduceCtorEq, if_false]
      congr 1
      have hl : ((b :: t).drop (next d (b :: t)).1).length ≤ t.length := by simp; omega
      rw [ih f (by omega) _ _ (by simp at h; omega)]
      rw [ih t.length (by simp at h; omega) _ _ hl]
theorem tokA_cons (d : Dat) (a : Nat) (l : List UInt8) (h : l ≠ []) : tokA d a l = ⟨a, a + (next d l).1, (next d l).2⟩ :: tokA d (a + (next d l).1) (l.drop (next d l).1) := by
  cases l with
  | nil => exact absurd rfl h
  | cons b t =>
    have hp := (next_pos d (b :: t) (by simp)).1
    unfold tokA
    show tokF d (t.length + 1) a (b :: t) = _
    simp only [tokF, reduceCtorEq, if_false]
    congr 1
    exact tokF_enough d _ _ _ (by simp; omega)
theorem tokA_nil (d : Dat) (a : Nat) : tokA d a [] = [] := rfl
theorem tokA_tokens (d : Dat) (l : List UInt8) : tokA d 0 l = tokens d l := rfl
def tokV (t : Tok) : Value := .agg #[.int .i64 (t.a : Nat), .int .i64 (t.b : Nat), .int .i64 (t.s : Nat)]
theorem tokF_len (d : Dat) : ∀ (f a : Nat) (l : List UInt8), (tokF d f a l).length ≤ f := by
  intro f
  induction f with
  | zero => intro a l; simp [tokF]
  | succ f ih =>
    intro a l
    unfold tokF
    split
    · simp
    · simp only [List.length_cons]
      have := ih (a + (next d l).1) (l.drop (next d l).1)
      omega
end Tess
namespace Go.Proofs.YtpfnmcgcpgcfjaaDoor
open Go.RowKit Tess Go.Shelf
attribute [local go_sem] Oper.semAt_some
set_option maxHeartbeats 1000000 in
theorem cut_All (w : World) (m : Value) (s : ByteArray) (hm : ∃ p, m = .pointer p) :
    Calls Tryd.prog 59 #[m, .string s] w fun e w' => e = .returned (.func (.func 89) #[] #[.pointer (some ⟨w.heap.size, 0, none⟩), .pointer (some ⟨w.heap.size + 1, 0, none⟩)]) ∧ w' = (w.alloc (.cells #[m] 27)).alloc (.cells #[.string s] 9) := by
  obtain ⟨p, rfl⟩ := hm
  go_enter Tryd.func59, Tryd.ntmps59
  go_wp2
  go_ret
  exact ⟨rfl, rfl⟩
set_option maxHeartbeats 8000000 in
set_option maxRecDepth 100000 in
theorem All_in (n : Nat) (hn : 2 ≤ n) (l B1 B2 n₀ B T g : Nat) (ht1 : 9 ≠ T) (ht2 : 27 ≠ T) (d : Dat) (s : ByteArray) (hs : s.size ≤ 1048576) (hB1 : B ≤ B1) (hB2 : B ≤ B2) (J Jx : List Tok → World → Prop) (w0 W : World) (hM : IsModel w0 g d) (hT : Tabs w0) (h0n : w0.heap.size ≤ n₀) (hb0 : Below w0.heap.size w0 W) (hJ : AbidesFrom W.heap.size J)
    (hY : ∀ pre x W1, J pre W1 → pre.length < s.size → YieldAt Fence.wide (n - 1) Tryd.prog l #[tokV x] W1 fun e W' =>
      (e = .returned (.bool true) ∧ J (pre ++ [x]) W' ∧ Rnd n₀ B T W1 W') ∨ (e = .returned (.bool false) ∧ Jx (pre ++ [x]) W'))
    (hc1 : Boxed W B1 27 (.pointer (some ⟨g, 0, none⟩))) (hc2 : Boxed W B2 9 (.string s)) (hz : n₀ ≤ W.heap.size) (hzB : B ≤ W.heap.size) (h0 : J [] W) :
    CallsIn Fence.wide n Tryd.prog 89 #[.func (.yield l) #[] #[], .pointer (some ⟨B1, 0, none⟩), .pointer (some ⟨B2, 0, none⟩)] W fun e W' => (∃ v, e = .returned v) ∧
      ((∃ xs : List Tok, xs = tokens d s.data.toList ∧ J xs W') ∨ (∃ pre : List Tok, pre <+: tokens d s.data.toList ∧ Jx pre W')) := by
  have HJ := Lib.hid hJ
  have HY := Lib.hid hY
  have HT := Lib.hid hT
  have HM := Lib.hid hM
  have HB0 := Lib.hid hb0
  clear hJ hY hT hM hb0
  have hlen : s.data.toList.length = s.size := by rw [Array.length_toList]; rfl
  refine callsIn_of_wp Tryd.func89 rfl trivial ?_ rfl
  simp only [Tryd.ntmps89, List.size_toArray, List.length_cons, List.length_nil, Nat.reduceAdd, Nat.reduceSub, Array.replicate_succ, Array.replicate_zero, List.push_toArray, List.append_toArray, List.nil_append, List.cons_append]
  have hcx0 := hc1.cell
  have hcy0 := hc2.cell
  gi_wp2
  clear hcx0 hcy0
  gi_loopw [4] (fun p wr => ∃ (k : Nat) (pre : List Tok), p = .int .i64 k ∧ k ≤ s.size ∧ pre ++ tokA d k (s.data.toList.drop k) = tokens d s.data.toList ∧ pre.length ≤ k ∧ J pre wr ∧ Rnd n₀ B T W wr)
    (fun p _ => s.size - (intOf p).toNat)
  case atStart => exact ⟨0, [], rfl, Nat.zero_le _, rfl, Nat.zero_le _, h0, Rnd.refl _ _ _ _⟩
  case round =>
    obtain ⟨k, pre, rfl, hk, he, hpk, hJs, hb⟩ := hrel
    have hcx : wr.cell? ⟨B1, 0, none⟩ = some (.pointer (some ⟨g, 0, none⟩)) := (hb.box hc1 hB1 ht2).cell
    have hcy : wr.cell? ⟨B2, 0, none⟩ = some (.string s) := (hb.box hc2 hB2 ht1).cell
    by_cases hlt : k < s.size
    · have hne : s.data.toList.drop k ≠ [] := by
        intro e
        have := congrArg List.length e
        rw [List.length_drop, List.length_nil, hlen] at this
        omega
      have hx : s.data.toList.drop k = (s.extract k s.size).data.toList := (tailB_list s k).symm
      have hesz : (s.extract k s.size).size = s.size - k := by
        have h1 : (s.extract k s.size).data.toList.length = (s.extract k s.size).size := by rw [Array.length_toList]; rfl
        rw [← h1, ← hx, List.length_drop, hlen]
      have hbw : Below w0.heap.size w0 wr := HB0.out.trans (hb.below.mono h0n)
      have hic := tokA_cons d k _ hne
      obtain ⟨p1, p2, p3, p4⟩ := next_pos d _ hne
      rw [List.length_drop, hlen] at p2
      obtain ⟨m, so, hnx⟩ : ∃ m so, next d (s.data.toList.drop k) = (m, so) := ⟨_, _, rfl⟩
      have hcall := fun W' (h : Below w0.heap.size w0 W') => cut_next W' g d (s.extract k s.size) (by omega) (by omega) (HM.out.below h) (Tabs.keep HT.out h HT.out.two)
      rw [← hx, hnx] at hcall
      rw [hnx] at p1 p2 p3 p4 hic
      simp only at p1 p2 p3 p4 hic hcall
      rw [hic] at he
      have HC := Lib.hid hcall
      have HE := Lib.hid he
      have HBW := Lib.hid hbw
      have HBR := Lib.hid hb
      have HJS := Lib.hid hJs
      clear hcall he hx hesz hic hne hnx hbw hb hJs
      have hmx : Tryd.prog.follows .mixedOrders = true := by kernel_rfl
      gi_wp2_with fail
      gi_region_with_o (refine ⟨trivial, fun _ => by omega, ?_⟩; refine (callsIn_wide.2 (HC.out _ (by first | exact HBW.out | exact HBW.out.drew))).mono ?_; rintro e W1 ⟨rfl, hb1⟩)
      all_goals
        have hb2 : Below wr.heap.size wr W1 := (Below.drew (Below.refl _ wr)).trans hb1
        have hJ1 := abides_below HJ.out HJS.out hb2
        have hbr := HBR.out.trans (Rnd.of_below (n₀ := n₀) (B := B) (T := T) hb2 (Nat.le_trans hz HBR.out.below.size))
        obtain ⟨fn, tmps, assign, body, hy, hR⟩ := HY.out pre ⟨k, k + m, so⟩ W1 hJ1 (by omega)
        dsimp only [tokV] at hy
        rw [Int.natCast_add] at hy
        have HBR2 := Lib.hid hbr
        clear hb1 hb2 hJ1 HJS HBR HC hbr HBW
        gi_wp2
        refine ⟨fun _ => by omega, hR.mono ?_⟩
        rintro e W3 (⟨rfl, hJ3, hk3⟩ | ⟨rfl, hJx3⟩)
        · gi_wp2
          go_roundw
          case rel =>
            refine ⟨k + m, pre ++ [⟨k, k + m, so⟩], rfl, by omega, ?_, by rw [List.length_append]; simp only [List.length_cons, List.length_nil]; omega, hJ3, HBR2.out.trans hk3⟩
            have := HE.out
            rw [← List.drop_drop, List.append_assoc]
            exact this
          case measure => (simp [intOf]; omega)
        · gi_wp2
          refine bodyPost_ret (results_none rfl _ _ _) rfl ?_
          refine ⟨⟨_, rfl⟩, .inr ⟨pre ++ [⟨k, k + m, so⟩], ⟨tokA d (k + m) ((s.data.toList.drop k).drop m), ?_⟩, hJx3⟩⟩
          rw [List.append_assoc]
          exact HE.out
    · obtain rfl : k = s.size := by omega
      gi_wp2
      go_end0
      rw [show s.data.toList.drop s.size = [] from by rw [List.drop_eq_nil_iff, Array.length_toList]; exact Nat.le_refl _] at he
      exact ⟨⟨_, rfl⟩, .inl ⟨pre, by simpa [tokA_nil] using he, hJs⟩⟩
theorem All_stops (n : Nat) (hn : 2 ≤ n) (B1 B2 n₀ B T g : Nat) (ht1 : 9 ≠ T) (ht2 : 27 ≠ T) (d : Dat) (s : ByteArray) (hs : s.size ≤ 1048576) (hB1 : B ≤ B1) (hB2 : B ≤ B2) (w0 w : World) (hM : IsModel w0 g d) (hT : Tabs w0) (h0n : w0.heap.size ≤ n₀) (hb0 : Below w0.heap.size w0 w)
    (hc1 : Boxed w B1 27 (.pointer (some ⟨g, 0, none⟩))) (hc2 : Boxed w B2 9 (.string s)) (hz : n₀ ≤ w.heap.size) (hzB : B ≤ w.heap.size) :
    SeqStopsK Fence.wide n Tryd.prog 89 #[.pointer (some ⟨B1, 0, none⟩), .pointer (some ⟨B2, 0, none⟩)] (fun x : Tok => #[tokV x]) (Rnd n₀ B T)
      (fun xs => xs = tokens d s.data.toList) (fun pre => pre <+: tokens d s.data.toList) s.size w := fun l J Jx W hW hJ _ hY h0 =>
  All_in n hn l B1 B2 n₀ B T g ht1 ht2 d s hs hB1 hB2 J Jx w0 W hM hT h0n (hb0.trans (hW.mono hb0.size)) hJ hY (blk_below hc1 hW) (blk_below hc2 hW) (Nat.le_trans hz hW.size) (Nat.le_trans hzB hW.size) h0
end Go.Proofs.YtpfnmcgcpgcfjaaDoor
