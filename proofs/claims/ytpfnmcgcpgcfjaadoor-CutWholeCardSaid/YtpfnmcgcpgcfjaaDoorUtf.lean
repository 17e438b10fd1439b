/- Contracts of utf.first, utf.Items, utf.Items$1. -/
import Derived.RangeFuncNested
import Derived.RangeFuncBound
import Derived.RangeFuncCalls
import Derived.RangeFuncLeaves
import Derived.RangeFuncFrom
import Derived.RangeFuncWrites
import Derived.Shelf.Abstract
import Derived.Shelf.RegionOpen
import Derived.WalkKit
import Derived.OwnWalkIn
import Derived.TacticsInMore
import Derived.LoopNIn
import Derived.LoopIn
import Derived.Test.YtpfnmcgcpgcfjaaDoorTable
import Derived.Test.YtpfnmcgcpgcfjaaDoorUpd
import Derived.Test.YtpfnmcgcpgcfjaaDoorShelf
import Derived.Test.YtpfnmcgcpgcfjaaDoorPureWhole
namespace Tess
open Go Go.RowKit
/-- Items, each with its place; from a place on. -/
def itemsAt (a : Nat) : List It → List (Nat × It)
  | [] => []
  | x :: l => (a, x) :: itemsAt (a + x.n) l
/-- The text from a place on. -/
def tailB (s : ByteArray) (a : Nat) : ByteArray := s.extract a s.size
theorem tailB_list (s : ByteArray) (a : Nat) : (tailB s a).data.toList = s.data.toList.drop a := by
  unfold tailB
  rw [ByteArray.data_extract, Array.toList_extract]
  show (s.data.toList.drop a).take (s.size - a) = _
  exact List.take_of_length_le (by simp only [List.length_drop, Array.length_toList, ByteArray.size]; omega)
theorem dec_decodeGo (s : ByteArray) (h : 0 < s.size) : Lib.decodeGo s = dec s.data.toList := by
  unfold Lib.decodeGo
  rw [if_neg (by omega), decode_dec]
def itV (a : Nat) (x : It) : Value := .agg #[.int .i64 (a : Nat), .int .i64 (x.n : Nat), .int .i32 (x.r : Nat), .bool x.bad]
end Tess
namespace Go.Proofs.YtpfnmcgcpgcfjaaDoor
open Go.RowKit Tess Go.Shelf
set_option maxHeartbeats 4000000 in
set_option maxRecDepth 100000 in
theorem utf_first (w : World) (s : ByteArray) (a : Nat) (hT : Lib.Utf8Tabs 0 1 w) (h : 0 < s.size) :
    Calls Tryd.prog 61 #[.string s, .int .i64 (a : Nat)] w fun e w' => e = .returned (itV a (item s.data.toList)) ∧ Below w.heap.size w w' := by
  have hT1 := Utf8Tabs_below hT ((Below.refl _ w).alloc (Nat.le_refl _) (Obj.cells #[.int .i64 0, .int .i64 0, .int .i32 0, .bool false] 43))
  have HT := Lib.hid hT1
  clear hT hT1
  have hd := dec_decodeGo s h
  have hr := dec_rune s.data.toList
  have h4 := dec_le4 s.data.toList
  unfold itV item
  obtain ⟨r, n, hrn⟩ : ∃ r n, dec s.data.toList = (r, n) := ⟨_, _, rfl⟩
  rw [hrn] at hd hr h4 ⊢
  have HD := Lib.hid hd
  clear hd hrn
  go_enter Tryd.func61, Tryd.ntmps61
  go_wp2_with fail
  refine (Tryd.utf8_DecodeRuneInString s _ HT.out).mono ?_
  rw [HD.out]
  rintro e w1 ⟨rfl, hb1⟩
  have hb0 : Below w.heap.size w w1 := below_then (by (repeat (first | with_reducible exact Below.refl _ _ | assumption | refine Below.drew ?_ | refine below_drewN ?_ _ | refine Below.alloc ?_ (by first | omega | (simp; done) | (simp; omega)) _ | refine Below.setCell ?_ (by first | omega | (simp; done) | (simp; omega)) _)) : Below w.heap.size w (w.alloc (Obj.cells #[.int .i64 0, .int .i64 0, .int .i32 0, .bool false] 43))) (by simp) hb1
  have f : ∀ i, w1.frozen? ⟨w.heap.size, i, none⟩ = false := fun i => (hb1.frozen (p := ⟨w.heap.size, i, none⟩) (by simp)).trans (by go_simp)
  have c0 : w1.cell? ⟨w.heap.size, 0, none⟩ = some (.int .i64 0) := cell_below hb1 (by go_simp)
  have c1 : w1.cell? ⟨w.heap.size, 1, none⟩ = some (.int .i64 0) := cell_below hb1 (by go_simp)
  have c2 : w1.cell? ⟨w.heap.size, 2, none⟩ = some (.int .i32 0) := cell_below hb1 (by go_simp)
  have c3 : w1.cell? ⟨w.heap.size, 3, none⟩ = some (.bool false) := cell_below hb1 (by go_simp)
  have HB := Lib.hid hb0
  clear hb0 hb1 HD HT
  by_cases e : r = 65533
  · subst e
    by_cases e2 : n = 1
    · subst e2
      go_wp2
      refine bodyPost_ret (v := .agg #[.int .i64 (a : Nat), .int .i64 1, .int .i32 65533, .bool true]) (by simp [results, Tryd.results61, go_sem, c0, c1, c2, c3]) rfl ⟨rfl, by have := HB.out; (repeat (first | with_reducible exact Below.refl _ _ | assumption | refine Below.drew ?_ | refine below_drewN ?_ _ | refine Below.alloc ?_ (by first | omega | (simp; done) | (simp; omega)) _ | refine Below.setCell ?_ (by first | omega | (simp; done) | (simp; omega)) _))⟩
    · have hn : (n == 1) = false := by simpa using e2
      have hn' : ((n : Int) == 1) = false := by simp; omega
      go_wp2
      refine bodyPost_ret (v := .agg #[.int .i64 (a : Nat), .int .i64 (n : Nat), .int .i32 65533, .bool false]) (by simp [results, Tryd.results61, go_sem, c0, c1, c2, c3]) rfl ⟨by simp [hn], by have := HB.out; (repeat (first | with_reducible exact Below.refl _ _ | assumption | refine Below.drew ?_ | refine below_drewN ?_ _ | refine Below.alloc ?_ (by first | omega | (simp; done) | (simp; omega)) _ | refine Below.setCell ?_ (by first | omega | (simp; done) | (simp; omega)) _))⟩
  · have hn : (r == 65533) = false := by simpa using e
    have hn' : ((r : Int) == 65533) = false := by simp; omega
    go_wp2
    refine bodyPost_ret (v := .agg #[.int .i64 (a : Nat), .int .i64 (n : Nat), .int .i32 (r : Nat), .bool false]) (by simp [results, Tryd.results61, go_sem, c0, c1, c2, c3]) rfl ⟨by simp [hn], by have := HB.out; (repeat (first | with_reducible exact Below.refl _ _ | assumption | refine Below.drew ?_ | refine below_drewN ?_ _ | refine Below.alloc ?_ (by first | omega | (simp; done) | (simp; omega)) _ | refine Below.setCell ?_ (by first | omega | (simp; done) | (simp; omega)) _))⟩
end Go.Proofs.YtpfnmcgcpgcfjaaDoor
