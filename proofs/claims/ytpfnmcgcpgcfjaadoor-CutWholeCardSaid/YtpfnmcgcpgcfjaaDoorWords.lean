/- Words on how this program's data lie in memory; no program in sight. -/
import Derived.WalkKit
import Derived.WalkLawsBesides
import Derived.WalkSpells
import Derived.KernelRfl
import Derived.Deep.QuietTactic
import Derived.BigQuiet
import Derived.Lib.Hide
import Derived.Test.YtpfnmcgcpgcfjaaDoorPureCut
namespace Tess
open Go Go.RowKit
/-- No length of a slice or string that came in is greater. -/
def lenMax : Nat := 140737488355328
/-- A slice value that reads as these spans. -/
def SpansIn (w : World) (v : Value) (l : List (Int × Int)) : Prop :=
  l.length ≤ 17592186044416 ∧ ∃ A c, v = .slice A l.length c ∧ (0 < l.length → ∃ b off, A = some ⟨b, off, none⟩ ∧ ∀ i, i < l.length →
    w.cell? ⟨b, off + i * 2, none⟩ = some (.int .i32 (l.getD i (0, 0)).1) ∧ w.cell? ⟨b, off + i * 2 + 1, none⟩ = some (.int .i32 (l.getD i (0, 0)).2))
theorem cell_below {w w' : World} (h : Below w.heap.size w w') {a : Addr} {v : Value} (hc : w.cell? a = some v) : w'.cell? a = some v := (h.cell (World.block_lt_of_cell? w a hc)).trans hc
theorem SpansIn.below {w w' : World} {v : Value} {l : List (Int × Int)} (h : SpansIn w v l) (hb : Below w.heap.size w w') : SpansIn w' v l := by
  obtain ⟨h0, A, c, hv, h⟩ := h
  refine ⟨h0, A, c, hv, fun hl => ?_⟩
  obtain ⟨b, off, hA, hc⟩ := h hl
  exact ⟨b, off, hA, fun i hi => ⟨cell_below hb (hc i hi).1, cell_below hb (hc i hi).2⟩⟩
theorem below_alloc {w W : World} (h : Below w.heap.size w W) (o : Obj) : Below w.heap.size w (W.alloc o) := h.alloc h.size o
theorem below_drewN {B : Nat} {w W : World} (h : Below B w W) (n : Nat) : Below B w (W.drewN n) := ⟨h.os, h.tape, h.output, h.size, h.block⟩
theorem below_then {B : Nat} {w w1 w2 : World} (h : Below B w w1) (hB : B ≤ w1.heap.size) (k : Below w1.heap.size w1 w2) : Below B w w2 := h.trans (k.mono hB)
theorem SpansIn.drewN {w : World} {v : Value} {l : List (Int × Int)} (h : SpansIn w v l) (n : Nat) : SpansIn (w.drewN n) v l := h.below (below_drewN (Below.refl _ _) n)
/-- The slice's parts, and the cells at a place. -/
theorem SpansIn.at_ {w : World} {A : Option Addr} {n c : Nat} {l : List (Int × Int)} (h : SpansIn w (.slice A n c) l) (i : Nat) (hi : i < n) :
    ∃ b off, A = some ⟨b, off, none⟩ ∧ w.cell? ⟨b, off + i * 2, none⟩ = some (.int .i32 (l.getD i (0, 0)).1) ∧ w.cell? ⟨b, off + i * 2 + 1, none⟩ = some (.int .i32 (l.getD i (0, 0)).2) := by
  obtain ⟨_, A', c', hv, h⟩ := h
  cases hv
  obtain ⟨b, off, hA, hc⟩ := h (by omega)
  exact ⟨b, off, hA, (hc i hi).1, (hc i hi).2⟩
theorem SpansIn.form {w : World} {v : Value} {l : List (Int × Int)} (h : SpansIn w v l) : ∃ A c, v = .slice A l.length c := ⟨h.2.choose, h.2.choose_spec.choose, h.2.choose_spec.choose_spec.1⟩
end Tess
