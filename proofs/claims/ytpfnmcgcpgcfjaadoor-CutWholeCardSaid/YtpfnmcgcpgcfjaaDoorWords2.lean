/- Words on how this program's data lie in memory: lists of words, of merges; data. -/
import Derived.Test.YtpfnmcgcpgcfjaaDoorWords
import Derived.Test.YtpfnmcgcpgcfjaaDoorPureModel
namespace Tess
open Go Go.RowKit
def StrsIn (w : World) (v : Value) (l : List ByteArray) : Prop :=
  l.length ≤ 8796093022208 ∧ (∀ i, (wAt l i).size ≤ 140737488355328) ∧ ∃ A c, v = .slice A l.length c ∧ (0 < l.length → ∃ b off, A = some ⟨b, off, none⟩ ∧ ∀ i, i < l.length → w.cell? ⟨b, off + i, none⟩ = some (.string (wAt l i)))
def MergesIn (w : World) (v : Value) (l : List Mg) : Prop :=
  l.length ≤ 8796093022208 ∧ (∀ i, (-9223372036854775808 ≤ mL l i ∧ mL l i ≤ 9223372036854775807) ∧ (-9223372036854775808 ≤ mR l i ∧ mR l i ≤ 9223372036854775807) ∧ (-9223372036854775808 ≤ mI l i ∧ mI l i ≤ 9223372036854775807)) ∧ ∃ A c, v = .slice A l.length c ∧ (0 < l.length → ∃ b off, A = some ⟨b, off, none⟩ ∧ ∀ i, i < l.length →
    w.cell? ⟨b, off + i * 3, none⟩ = some (.int .i64 (mL l i)) ∧ w.cell? ⟨b, off + i * 3 + 1, none⟩ = some (.int .i64 (mR l i)) ∧ w.cell? ⟨b, off + i * 3 + 2, none⟩ = some (.int .i64 (mI l i)))
theorem StrsIn.below {w w' : World} {v : Value} {l : List ByteArray} (h : StrsIn w v l) (hb : Below w.heap.size w w') : StrsIn w' v l := by
  obtain ⟨h0, h1, A, c, hv, h⟩ := h
  refine ⟨h0, h1, A, c, hv, fun hl => ?_⟩
  obtain ⟨b, off, hA, hc⟩ := h hl
  exact ⟨b, off, hA, fun i hi => cell_below hb (hc i hi)⟩
theorem MergesIn.below {w w' : World} {v : Value} {l : List Mg} (h : MergesIn w v l) (hb : Below w.heap.size w w') : MergesIn w' v l := by
  obtain ⟨h0, h1, A, c, hv, h⟩ := h
  refine ⟨h0, h1, A, c, hv, fun hl => ?_⟩
  obtain ⟨b, off, hA, hc⟩ := h hl
  exact ⟨b, off, hA, fun i hi => ⟨cell_below hb (hc i hi).1, cell_below hb (hc i hi).2.1, cell_below hb (hc i hi).2.2⟩⟩
theorem StrsIn.form {w : World} {v : Value} {l : List ByteArray} (h : StrsIn w v l) : ∃ A c, v = .slice A l.length c := ⟨h.2.2.choose, h.2.2.choose_spec.choose, h.2.2.choose_spec.choose_spec.1⟩
theorem MergesIn.form {w : World} {v : Value} {l : List Mg} (h : MergesIn w v l) : ∃ A c, v = .slice A l.length c := ⟨h.2.2.choose, h.2.2.choose_spec.choose, h.2.2.choose_spec.choose_spec.1⟩
theorem StrsIn.at_ {w : World} {A : Option Addr} {n c : Nat} {l : List ByteArray} (h : StrsIn w (.slice A n c) l) (i : Nat) (hi : i < n) :
    ∃ b off, A = some ⟨b, off, none⟩ ∧ w.cell? ⟨b, off + i, none⟩ = some (.string (wAt l i)) := by
  obtain ⟨_, _, A', c', hv, h⟩ := h
  cases hv
  obtain ⟨b, off, hA, hc⟩ := h (by omega)
  exact ⟨b, off, hA, hc i hi⟩
theorem MergesIn.at_ {w : World} {A : Option Addr} {n c : Nat} {l : List Mg} (h : MergesIn w (.slice A n c) l) (i : Nat) (hi : i < n) :
    ∃ b off, A = some ⟨b, off, none⟩ ∧ w.cell? ⟨b, off + i * 3, none⟩ = some (.int .i64 (mL l i)) ∧ w.cell? ⟨b, off + i * 3 + 1, none⟩ = some (.int .i64 (mR l i)) ∧ w.cell? ⟨b, off + i * 3 + 2, none⟩ = some (.int .i64 (mI l i)) := by
  obtain ⟨_, _, A', c', hv, h⟩ := h
  cases hv
  obtain ⟨b, off, hA, hc⟩ := h (by omega)
  exact ⟨b, off, hA, hc i hi⟩
/-- Five slices that read as a model's data. -/
structure DataIn (w : World) (vw vm va vb vc : Value) (d : Dat) : Prop where
  words : StrsIn w vw d.words
  merges : MergesIn w vm d.merges
  letters : SpansIn w va d.letters
  numbers : SpansIn w vb d.numbers
  spaces : SpansIn w vc d.spaces
theorem DataIn.below {w w' : World} {vw vm va vb vc : Value} {d : Dat} (h : DataIn w vw vm va vb vc d) (hb : Below w.heap.size w w') : DataIn w' vw vm va vb vc d :=
  ⟨h.words.below hb, h.merges.below hb, h.letters.below hb, h.numbers.below hb, h.spaces.below hb⟩
end Tess
