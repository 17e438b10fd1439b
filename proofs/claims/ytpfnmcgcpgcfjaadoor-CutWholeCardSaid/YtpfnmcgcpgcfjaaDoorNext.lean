/- Contract of cut.next. -/
import Derived.Test.YtpfnmcgcpgcfjaaDoorShort
namespace Tess
open Go Go.RowKit
theorem runIts_pre (d : Dat) (l : List It) : ∃ t, l = runIts d l ++ t := by
  unfold runIts
  cases l with
  | nil => exact ⟨[], rfl⟩
  | cons x l => exact ⟨_, (List.takeWhile_append_dropWhile).symm⟩
theorem run_le (d : Dat) (L : List UInt8) : (run d L).1 ≤ L.length := by
  obtain ⟨t, ht⟩ := runIts_pre d (items L)
  have := congrArg sizes ht
  rw [items_sizes, sizes_append] at this
  unfold run
  simp only
  omega
theorem last_le (l : List It) : lastN l ≤ sizes l := by
  unfold lastN
  cases h : l.getLast? with
  | none => simp
  | some x =>
    simp only
    obtain ⟨q, rfl⟩ := List.getLast?_eq_some_iff.1 h
    rw [sizes_append]
    show x.n ≤ sizes q + (x.n + 0)
    omega
theorem run_last (d : Dat) (L : List UInt8) : (run d L).2.1 ≤ (run d L).1 := last_le _
theorem run_kind (d : Dat) (L : List UInt8) : (run d L).2.2 ≤ 4 := by
  unfold run headK
  simp only
  split
  · omega
  · exact (kind_range _ _).2
theorem short_le (l : List UInt8) : short l ≤ 3 := by
  rw [short_B]
  unfold shortB
  repeat' split
  all_goals omega
end Tess
namespace Go.Proofs.YtpfnmcgcpgcfjaaDoor
open Go.RowKit Tess Go.Shelf
set_option maxHeartbeats 8000000 in
set_option maxRecDepth 100000 in
theorem cut_next (w : World) (g : Nat) (d : Dat) (s : ByteArray) (hs : s.size ≤ 140737488355328) (h0 : 0 < s.size) (hM : IsModel w g d) (hT : Tabs w) :
    Calls Tryd.prog 90 #[.pointer (some ⟨g, 0, none⟩), .string s] w fun e w' => e = .returned (.tuple #[.int .i64 ((next d s.data.toList).1 : Nat), .int .i64 ((next d s.data.toList).2 : Nat)]) ∧ Below w.heap.size w w' := by
  have hlen : s.data.toList.length = s.size := by rw [Array.length_toList]; rfl
  have hS := cut_short w s
  have hR := fun w' (hb : Below w.heap.size w w') => cut_run w' g d s hs (hM.below hb) (Tabs.keep hT hb hT.two)
  have hR2 := fun w' (hb : Below w.heap.size w w') => cut_run w' g d (s.extract 1 s.size) (by simp; omega) (hM.below hb) (Tabs.keep hT hb hT.two)
  have hd1 : (s.extract 1 s.size).data.toList = s.data.toList.drop 1 := tailB_list s 1
  rw [hd1] at hR2
  have r1 := run_le d s.data.toList
  have r2 := run_last d s.data.toList
  have r3 := run_kind d s.data.toList
  have r4 := run_le d (s.data.toList.drop 1)
  have r5 := run_kind d (s.data.toList.drop 1)
  rw [List.length_drop] at r4
  have hsh := short_le s.data.toList
  obtain ⟨N, hN⟩ : ∃ N, next d s.data.toList = N := ⟨_, rfl⟩
  rw [hN]
  unfold next at hN
  rw [hlen] at hN r1 r4
  obtain ⟨sh, hshe⟩ : ∃ x, short s.data.toList = x := ⟨_, rfl⟩
  rw [hshe] at hS hN hsh
  obtain ⟨n, l, k, hrun⟩ : ∃ n l k, run d s.data.toList = (n, l, k) := ⟨_, _, _, rfl⟩
  obtain ⟨n2, l2, k2, hrun2⟩ : ∃ n l k, run d (s.data.toList.drop 1) = (n, l, k) := ⟨_, _, _, rfl⟩
  rw [hrun] at hN r1 r2 r3
  rw [hrun] at hR
  rw [hrun2] at hN r4 r5
  rw [hrun2] at hR2
  simp only at hN r1 r2 r3 r4 r5 hR hR2
  have HS := Lib.hid hS
  have HR := Lib.hid hR
  have HR2 := Lib.hid hR2
  clear hS hR hR2 hrun hrun2 hshe hM hT hd1
  by_cases a1 : 0 < sh
  · rw [if_pos a1] at hN
    subst hN
    go_enter Tryd.func90, Tryd.ntmps90
    go_wp2_with (go_at_call 116; refine HS.out.mono ?_; rintro e W1 ⟨rfl, hb1⟩)
    go_ret2
    exact ⟨rfl, hb1⟩
  rw [if_neg a1] at hN
  have a1' : sh = 0 := by omega
  subst a1'
  by_cases a2 : k = 3
  case neg =>
    rw [if_pos a2] at hN
    subst hN
    have a2' : ((k : Int) != 3) = true := by simp; omega
    have hso := fun w => cut_sort w k (by omega)
    have HSO := Lib.hid hso
    clear hso
    go_enter Tryd.func90, Tryd.ntmps90
    go_wp2_with fail
    refine HS.out.mono ?_
    rintro e W1 ⟨rfl, hb1⟩
    go_wp2_with fail
    refine (HR.out W1 hb1).mono ?_
    rintro e W2 ⟨rfl, hb2⟩
    have hb := hb1.trans (hb2.mono hb1.size)
    go_wp2_with fail
    refine (HSO.out W2).mono ?_
    rintro e W3 ⟨rfl, rfl⟩
    go_wp2
    go_ret2
    exact ⟨rfl, hb⟩
  subst a2
  rw [if_neg (by simp)] at hN
  obtain ⟨c, hc⟩ : ∃ c, byteN s.data.toList 0 = c := ⟨_, rfl⟩
  rw [hc] at hN
  have hix : ∀ W, (Instr.index 9 (.string s) (.int .i64 0)).run Tryd.prog W = .ok (.int .u8 (c : Nat)) W := by
    intro W
    have := run_index_string (P := Tryd.prog) 9 s .i64 0 Tryd.underlying9 (w := W)
    rw [this, dif_pos ⟨by omega, by omega⟩, ← hc]
    have e : (s[(0 : Int).toNat]'(by simpa using h0)) = s.data.toList.getD 0 0 := by
      rw [List.getD_eq_getElem?_getD, List.getElem?_eq_getElem (by rw [hlen]; exact h0), Option.getD_some]
      rfl
    rw [e]
    rfl
  have HIX := Lib.hid hix
  clear hix hc
  have hfirst : ∀ (b : Prop), b → True := fun _ _ => trivial
  by_cases a3 : c = 32 ∧ n = 1 ∧ 1 < s.size
  · rw [if_pos a3] at hN
    subst hN
    obtain ⟨rfl, rfl, a5⟩ := a3
    have hso := fun w => cut_sort w k2 (by omega)
    have HSO := Lib.hid hso
    have hw : IntKind.i64.wrap (1 + (n2 : Int)) = ((1 + n2 : Nat) : Int) := by rw [Go.IntWalk.i64_in _ (by omega)]; push_cast; rfl
    clear hso
    have hix := HIX.out
    go_enter Tryd.func90, Tryd.ntmps90
    go_wp2_with fail
    refine HS.out.mono ?_
    rintro e W1 ⟨rfl, hb1⟩
    go_wp2_with fail
    refine (HR.out W1 hb1).mono ?_
    rintro e W2 ⟨rfl, hb2⟩
    have hb := hb1.trans (hb2.mono hb1.size)
    clear hb2
    go_wp2_with fail
    refine (HR2.out W2 hb).mono ?_
    rintro e W3 ⟨rfl, hb3⟩
    have hb' := hb.trans (hb3.mono hb.size)
    clear hb3 hb hb1
    go_wp2_with fail
    refine (HSO.out W3).mono ?_
    rintro e W4 ⟨rfl, rfl⟩
    go_wp2
    go_ret2
    exact ⟨by simp, hb'⟩
  · rw [if_neg a3] at hN
    have hix := HIX.out
    by_cases a4 : n < s.size ∧ l < n
    · rw [if_pos a4] at hN
      subst hN
      obtain ⟨a4, a5⟩ := a4
      have hw : IntKind.i64.wrap ((n : Int) - l) = ((n - l : Nat) : Int) := by rw [Go.IntWalk.i64_in _ (by omega)]; omega
      have fin : ∀ (P : Prop), P → P := fun _ h => h
      rcases (by omega : c ≠ 32 ∨ (c = 32 ∧ n ≠ 1) ∨ (c = 32 ∧ n = 1 ∧ ¬ 1 < s.size)) with b | ⟨rfl, b⟩ | ⟨rfl, rfl, b⟩
      · have b' : ((c : Int) == 32) = false := by simp; omega
        clear a3
        go_enter Tryd.func90, Tryd.ntmps90
        go_wp2_with fail
        refine HS.out.mono ?_
        rintro e W1 ⟨rfl, hb1⟩
        go_wp2_with fail
        refine (HR.out W1 hb1).mono ?_
        rintro e W2 ⟨rfl, hb2⟩
        have hb := hb1.trans (hb2.mono hb1.size)
        clear hb1 hb2
        go_wp2
        go_ret2
        exact ⟨by simp, hb⟩
      · have b' : ((n : Int) == 1) = false := by simp; omega
        clear a3
        go_enter Tryd.func90, Tryd.ntmps90
        go_wp2_with fail
        refine HS.out.mono ?_
        rintro e W1 ⟨rfl, hb1⟩
        go_wp2_with fail
        refine (HR.out W1 hb1).mono ?_
        rintro e W2 ⟨rfl, hb2⟩
        have hb := hb1.trans (hb2.mono hb1.size)
        clear hb1 hb2
        go_wp2
        go_ret2
        exact ⟨by simp, hb⟩
      · omega
    · rw [if_neg a4] at hN
      subst hN
      rcases (by omega : n < s.size ∨ ¬ n < s.size) with a6 | a6
      · have a7 : ¬ l < n := fun h => a4 ⟨a6, h⟩
        clear a4
        rcases (by omega : c ≠ 32 ∨ (c = 32 ∧ n ≠ 1) ∨ (c = 32 ∧ n = 1 ∧ ¬ 1 < s.size)) with b | ⟨rfl, b⟩ | ⟨rfl, rfl, b⟩
        · have b' : ((c : Int) == 32) = false := by simp; omega
          clear a3
          go_enter Tryd.func90, Tryd.ntmps90
          go_wp2_with fail
          refine HS.out.mono ?_
          rintro e W1 ⟨rfl, hb1⟩
          go_wp2_with fail
          refine (HR.out W1 hb1).mono ?_
          rintro e W2 ⟨rfl, hb2⟩
          have hb := hb1.trans (hb2.mono hb1.size)
          clear hb1 hb2
          go_wp2
          go_ret2
          exact ⟨by simp, hb⟩
        · have b' : ((n : Int) == 1) = false := by simp; omega
          clear a3
          go_enter Tryd.func90, Tryd.ntmps90
          go_wp2_with fail
          refine HS.out.mono ?_
          rintro e W1 ⟨rfl, hb1⟩
          go_wp2_with fail
          refine (HR.out W1 hb1).mono ?_
          rintro e W2 ⟨rfl, hb2⟩
          have hb := hb1.trans (hb2.mono hb1.size)
          clear hb1 hb2
          go_wp2
          go_ret2
          exact ⟨by simp, hb⟩
        · omega
      · clear a4
        rcases (by omega : c ≠ 32 ∨ (c = 32 ∧ n ≠ 1) ∨ (c = 32 ∧ n = 1 ∧ ¬ 1 < s.size)) with b | ⟨rfl, b⟩ | ⟨rfl, rfl, b⟩
        · have b' : ((c : Int) == 32) = false := by simp; omega
          clear a3
          go_enter Tryd.func90, Tryd.ntmps90
          go_wp2_with fail
          refine HS.out.mono ?_
          rintro e W1 ⟨rfl, hb1⟩
          go_wp2_with fail
          refine (HR.out W1 hb1).mono ?_
          rintro e W2 ⟨rfl, hb2⟩
          have hb := hb1.trans (hb2.mono hb1.size)
          clear hb1 hb2
          go_wp2
          go_ret2
          exact ⟨by simp, hb⟩
        · have b' : ((n : Int) == 1) = false := by simp; omega
          clear a3
          go_enter Tryd.func90, Tryd.ntmps90
          go_wp2_with fail
          refine HS.out.mono ?_
          rintro e W1 ⟨rfl, hb1⟩
          go_wp2_with fail
          refine (HR.out W1 hb1).mono ?_
          rintro e W2 ⟨rfl, hb2⟩
          have hb := hb1.trans (hb2.mono hb1.size)
          clear hb1 hb2
          go_wp2
          go_ret2
          exact ⟨by simp, hb⟩
        · clear a3
          go_enter Tryd.func90, Tryd.ntmps90
          go_wp2_with fail
          refine HS.out.mono ?_
          rintro e W1 ⟨rfl, hb1⟩
          go_wp2_with fail
          refine (HR.out W1 hb1).mono ?_
          rintro e W2 ⟨rfl, hb2⟩
          have hb := hb1.trans (hb2.mono hb1.size)
          clear hb1 hb2
          go_wp2
          go_ret2
          exact ⟨by simp, hb⟩
end Go.Proofs.YtpfnmcgcpgcfjaaDoor
