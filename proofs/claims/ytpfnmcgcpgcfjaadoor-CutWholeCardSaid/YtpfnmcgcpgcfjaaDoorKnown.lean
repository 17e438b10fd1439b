/- Contract of known: what the statements of chapter 12 know of the small model. -/
import Derived.Test.YtpfnmcgcpgcfjaaDoorCutAs
namespace Go.Proofs.YtpfnmcgcpgcfjaaDoor
open Go.RowKit Tess
theorem sizes_small (l : List ByteArray) (h : ∀ i, i < l.length → (wAt l i).size ≤ 140737488355328) : ∀ i, (wAt l i).size ≤ 140737488355328 := by
  intro i
  by_cases hi : i < l.length
  · exact h i hi
  · unfold wAt
    rw [List.getD_eq_getElem?_getD, List.getElem?_eq_none (by omega)]
    decide
set_option maxHeartbeats 8000000 in
set_option maxRecDepth 100000 in
theorem law12_known (w : World) (hT : Tabs w) : Calls Tryd.prog 15 #[] w fun e w' => e = .returned (.bool true) ∧ Below w.heap.size w w' := by
  have HT := Lib.hid hT
  clear hT
  have hA : StrsIn (w.alloc (Obj.cells #[.string ⟨#[105, 116]⟩, .string ⟨#[39, 115]⟩, .string ⟨#[32, 49, 50]⟩, .string ⟨#[32]⟩, .string ⟨#[32, 111]⟩, .string ⟨#[39]⟩, .string ⟨#[99, 108, 111, 99, 107]⟩] 9)) (.slice (some ⟨w.heap.size, 0, none⟩) 7 7) wantA :=
    StrsIn.of_row (row_blk (blk_new w _) _ rfl) (by decide) (sizes_small _ (by decide))
  have hbA : Below w.heap.size w (w.alloc (Obj.cells #[.string ⟨#[105, 116]⟩, .string ⟨#[39, 115]⟩, .string ⟨#[32, 49, 50]⟩, .string ⟨#[32]⟩, .string ⟨#[32, 111]⟩, .string ⟨#[39]⟩, .string ⟨#[99, 108, 111, 99, 107]⟩] 9)) := by (repeat (first | with_reducible exact Below.refl _ _ | assumption | refine Below.drew ?_ | refine below_drewN ?_ _ | refine Below.alloc ?_ (by first | omega | (simp; done) | (simp; omega)) _ | refine Below.setCell ?_ (by first | omega | (simp; done) | (simp; omega)) _))
  have HA := Lib.hid hA
  have HBA := Lib.hid hbA
  clear hA hbA
  go_enter Tryd.func15, Tryd.ntmps15
  go_wp2_with fail
  have hc1 := law12_cutAs _ ⟨#[105, 116, 39, 115, 32, 49, 50, 32, 32, 111, 39, 99, 108, 111, 99, 107]⟩ _ wantA (by decide) (Tabs.keep HT.out HBA.out HT.out.two) HA.out (by decide +kernel) wantA_ok (by decide)
  refine hc1.mono ?_
  rintro e W1 ⟨rfl, hb1⟩
  have hb := below_then HBA.out (by simp) hb1
  clear hb1 hc1
  have HB := Lib.hid hb
  clear hb
  go_wp2_with fail
  have hB : StrsIn (W1.alloc (Obj.cells #[.string ⟨#[10]⟩, .string ⟨#[10]⟩, .string ⟨#[97]⟩] 9)) (.slice (some ⟨W1.heap.size, 0, none⟩) 3 3) wantB :=
    StrsIn.of_row (row_blk (blk_new W1 _) _ rfl) (by decide) (sizes_small _ (by decide))
  have hbB : Below w.heap.size w (W1.alloc (Obj.cells #[.string ⟨#[10]⟩, .string ⟨#[10]⟩, .string ⟨#[97]⟩] 9)) := HB.out.alloc HB.out.size _
  have hc2 := law12_cutAs _ ⟨#[10, 10, 97]⟩ _ wantB (by decide) (Tabs.keep HT.out hbB HT.out.two) hB (by decide +kernel) wantB_ok (by decide)
  refine hc2.mono ?_
  rintro e W2 ⟨rfl, hb2⟩
  have hb := hbB.trans (hb2.mono hbB.size)
  clear hb2 hc2 hB hbB
  go_wp2
  go_ret
  exact ⟨rfl, hb⟩
end Go.Proofs.YtpfnmcgcpgcfjaaDoor
