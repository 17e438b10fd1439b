/- Contracts of package spans: cut, Size of one span, Meet. -/
import Derived.Test.YtpfnmcgcpgcfjaaDoorSpans
namespace Go.Proofs.YtpfnmcgcpgcfjaaDoor
open Go.RowKit Tess
set_option maxHeartbeats 1000000 in
theorem spans_cut (w : World) (lo hi : Int) :
   Calls Tryd.prog 151 #[.agg #[.int .i32 lo, .int .i32 hi]] w fun e w' => e = .returned (.tuple #[.agg #[.int .i32 (max lo 0), .int .i32 (min hi 0x10FFFF)], .bool (decide (max lo 0 ≤ min hi 0x10FFFF))]) ∧ Below w.heap.size w w' := by
  go_enter Tryd.func151, Tryd.ntmps151
  go_wp2
  go_region
  go_wp2
  refine bodyPost_ret (v := .tuple #[.agg #[.int .i32 (max lo 0), .int .i32 (min hi 0x10FFFF)], .bool (decide (max lo 0 ≤ min hi 0x10FFFF))]) (by simp [results, Tryd.results151, go_sem]) rfl ⟨rfl, ?_⟩
  (repeat (first | with_reducible exact Below.refl _ _ | assumption | refine Below.drew ?_ | refine below_drewN ?_ _ | refine Below.alloc ?_ (by first | omega | (simp; done) | (simp; omega)) _ | refine Below.setCell ?_ (by first | omega | (simp; done) | (simp; omega)) _))
theorem size_walk {lo hi : Int} (h : max lo 0 ≤ min hi 1114111) : wrap64 (wrap64 (wrap64 (wrap64 (wrap32 (min hi 1114111 - max lo 0)) + 1) - max 0 (wrap64 (wrap64 (wrap32 (min hi (min 1114111 57343) - max lo (max 0 55296))) + 1)))) = sizeOne lo hi := by
  unfold sizeOne wrap64 wrap32
  rw [if_pos h]
  omega
set_option maxHeartbeats 2000000 in
set_option maxRecDepth 100000 in
theorem spans_Size (w : World) (b : Nat) (lo hi : Int) (hlo : -2147483648 ≤ lo ∧ lo ≤ 2147483647) (hhi : -2147483648 ≤ hi ∧ hi ≤ 2147483647) (h0 : w.cell? ⟨b, 0, none⟩ = some (.int .i32 lo)) (h1 : w.cell? ⟨b, 1, none⟩ = some (.int .i32 hi)) :
   Calls Tryd.prog 131 #[.slice (some ⟨b, 0, none⟩) 1 1] w fun e w' => e = .returned (.int .i64 (sizeOne lo hi)) ∧ Below w.heap.size w w' := by
  obtain ⟨hl1, hl2⟩ := hlo
  obtain ⟨hl3, hl4⟩ := hhi
  go_enter Tryd.func131, Tryd.ntmps131
  go_wp2
  go_loopw [10, 3] (fun s n W => ∃ i : Nat, i ≤ 1 ∧ s = .int .i64 i ∧ n = .int .i64 (if i = 0 then 0 else sizeOne lo hi) ∧ Below w.heap.size w W) (fun s _ _ => 1 - (intOf s).toNat)
  case atStart => exact ⟨0, by omega, rfl, by simp, Below.refl _ _⟩
  case round =>
    obtain ⟨i, hi1, rfl, rfl, hb⟩ := hrel
    have h0' := cell_below hb h0
    have h1' := cell_below hb h1
    have HB := Lib.hid hb
    have hs := hb.size
    clear hb h0 h1
    by_cases hlt : i = 0
    · subst hlt
      go_wp2_with (go_at_call 151; refine (spans_cut _ _ _).mono ?_; rintro e w2 ⟨rfl, hb2⟩)
      · rename_i hn
        have hn' : ¬ (max lo 0 ≤ min hi 1114111) := by simpa using hn
        refine ⟨⟨1, by omega, by go_num, ?_, ?_⟩, by simp [intOf]⟩
        · unfold sizeOne; rw [if_neg hn']; rfl
        · have hz := hb2.size
          simp at hz
          exact below_then HB.out hs ((below_then ((Below.refl _ _).alloc (Nat.le_refl _) _) (by simp) hb2).alloc (by omega) _)
      · rename_i hn
        have hn' : max lo 0 ≤ min hi 1114111 := by simpa using hn
        refine ⟨⟨1, by omega, by go_num, ?_, ?_⟩, by simp [intOf]⟩
        · rw [size_walk hn']; rfl
        · have hz := hb2.size
          simp at hz
          exact below_then HB.out hs ((below_then ((Below.refl _ _).alloc (Nat.le_refl _) _) (by simp) hb2).alloc (by omega) _)
    · obtain rfl : i = 1 := by omega
      go_wp2
      go_ret
      exact ⟨rfl, HB.out⟩
end Go.Proofs.YtpfnmcgcpgcfjaaDoor
