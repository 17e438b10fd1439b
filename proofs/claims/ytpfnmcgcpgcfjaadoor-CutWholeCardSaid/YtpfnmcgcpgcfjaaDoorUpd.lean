/- Words on what a call may turn: the blocks of F, and new ones. Blocks known whole. -/
import Derived.Test.YtpfnmcgcpgcfjaaDoorClone
import Derived.Test.YtpfnmcgcpgcfjaaDoorMap
namespace Tess
open Go Go.RowKit
/-- Of the blocks that lay there, those outside F are as they were. -/
structure Upd (F : Nat → Prop) (w w' : World) : Prop where
  os : w'.os = w.os
  tape : w'.tape = w.tape
  output : w'.output = w.output
  size : w.heap.size ≤ w'.heap.size
  same : ∀ k, k < w.heap.size → ¬ F k → w'.heap[k]? = w.heap[k]?
theorem Upd.refl (F : Nat → Prop) (w : World) : Upd F w w := ⟨rfl, rfl, rfl, Nat.le_refl _, fun _ _ _ => rfl⟩
theorem Upd.trans {F : Nat → Prop} {a b c : World} (h : Upd F a b) (k : Upd F b c) : Upd F a c :=
  ⟨k.os.trans h.os, k.tape.trans h.tape, k.output.trans h.output, Nat.le_trans h.size k.size, fun i hi hf => (k.same i (Nat.lt_of_lt_of_le hi h.size) hf).trans (h.same i hi hf)⟩
theorem Upd.mono {F G : Nat → Prop} {w w' : World} (h : Upd F w w') (hg : ∀ k, k < w.heap.size → F k → G k) : Upd G w w' := ⟨h.os, h.tape, h.output, h.size, fun k hk hn => h.same k hk fun hf => hn (hg k hk hf)⟩
/-- The first step may turn F, the second what the first has made, too. -/
theorem Upd.then {F G : Nat → Prop} {a b c : World} (h : Upd F a b) (k : Upd G b c) (hg : ∀ i, i < a.heap.size → G i → F i) : Upd F a c :=
  ⟨k.os.trans h.os, k.tape.trans h.tape, k.output.trans h.output, Nat.le_trans h.size k.size, fun i hi hf => (k.same i (Nat.lt_of_lt_of_le hi h.size) fun hgi => hf (hg i hi hgi)).trans (h.same i hi hf)⟩
theorem Upd.of_below {F : Nat → Prop} {w w' : World} (h : Below w.heap.size w w') : Upd F w w' := ⟨h.os, h.tape, h.output, h.size, fun k hk _ => h.block k hk⟩
theorem Upd.below {w w' : World} (h : Upd (fun _ => False) w w') : Below w.heap.size w w' := ⟨h.os, h.tape, h.output, h.size, fun k hk => h.same k hk id⟩
theorem Upd.below_of {F : Nat → Prop} {w w' : World} (h : Upd F w w') {B : Nat} (hB : B ≤ w.heap.size) (hf : ∀ k, k < B → ¬ F k) : Below B w w' := ⟨h.os, h.tape, h.output, h.size, fun k hk => h.same k (Nat.lt_of_lt_of_le hk hB) (hf k hk)⟩
theorem Upd.alloc {F : Nat → Prop} {a w : World} (h : Upd F a w) (o : Obj) : Upd F a (w.alloc o) := h.then (Upd.of_below (F := fun _ => False) ((Below.refl _ _).alloc (Nat.le_refl _) o)) fun _ _ hf => hf.elim
theorem Upd.drewN {F : Nat → Prop} {a w : World} (h : Upd F a w) (n : Nat) : Upd F a (w.drewN n) := ⟨h.os, h.tape, h.output, h.size, h.same⟩
theorem Upd.drew {F : Nat → Prop} {a w : World} (h : Upd F a w) : Upd F a w.drew := ⟨h.os, h.tape, h.output, h.size, h.same⟩
theorem Upd.setCell {F : Nat → Prop} {a w : World} (h : Upd F a w) {p : Addr} (hp : F p.block ∨ a.heap.size ≤ p.block) (u : Value) : Upd F a (w.setCell p u) :=
  ⟨h.os, h.tape, h.output, by simp [World.setCell]; exact h.size, fun k hk hf => (Below.heap_setCell w p u k (by
    rintro rfl
    rcases hp with hp | hp
    · exact hf hp
    · omega)).trans (h.same k hk hf)⟩
/-- A block that is no cells is turned. -/
def put (w : World) (r : Nat) (o : Obj) : World := { w with heap := w.heap.setIfInBounds r o }
theorem put_size (w : World) (r : Nat) (o : Obj) : (put w r o).heap.size = w.heap.size := by simp [put]
theorem put_same (w : World) (r : Nat) (o : Obj) (h : r < w.heap.size) : (put w r o).heap[r]? = some o := by simp [put, h]
theorem put_other (w : World) (r : Nat) (o : Obj) (k : Nat) (h : k ≠ r) : (put w r o).heap[k]? = w.heap[k]? := by
  simp only [put, Array.getElem?_setIfInBounds]
  rw [if_neg (fun e => h e.symm)]
theorem Upd.put {F : Nat → Prop} {a w : World} (h : Upd F a w) {r : Nat} (hr : F r ∨ a.heap.size ≤ r) (o : Obj) : Upd F a (put w r o) :=
  ⟨h.os, h.tape, h.output, by rw [put_size]; exact h.size, fun k hk hf => (put_other w r o k (by
    rintro rfl
    rcases hr with hp | hp
    · exact hf hp
    · omega)).trans (h.same k hk hf)⟩
theorem Upd.blk {F : Nat → Prop} {w w' : World} (h : Upd F w w') {k : Nat} {o : Obj} (hk : w.heap[k]? = some o) (hf : ¬ F k) : w'.heap[k]? = some o := (h.same k (Array.getElem?_eq_some_iff.1 hk).1 hf).trans hk
theorem Upd.cell {F : Nat → Prop} {w w' : World} (h : Upd F w w') {p : Addr} {v : Value} (hc : w.cell? p = some v) (hf : ¬ F p.block) : w'.cell? p = some v :=
  (World.cell?_of_block (h.same p.block (World.block_lt_of_cell? w p hc) hf)).trans hc
theorem SameAt.of_upd {F : Nat → Prop} {w w' : World} {v : Value} (h : Upd F w w') (hv : ∀ b, v.ownBlock = some b → b < w.heap.size ∧ ¬ F b) : SameAt w w' v := fun b hb o =>
  World.cell?_of_block (a := ⟨b, o, none⟩) (h.same b (hv b hb).1 (hv b hb).2)
/-! ### A block known whole -/
theorem blk_lt {w : World} {g : Nat} {o : Obj} (h : w.heap[g]? = some o) : g < w.heap.size := (Array.getElem?_eq_some_iff.1 h).1
theorem blk_cell {w : World} {g : Nat} {cs : Array Value} {t : TypeId} {fr : Nat × Nat} (h : w.heap[g]? = some (.cells cs t fr)) (i : Nat) : w.cell? ⟨g, i, none⟩ = cs[i]? := by
  unfold World.cell?
  simp [h]
theorem blk_free {w : World} {g : Nat} {cs : Array Value} {t : TypeId} (h : w.heap[g]? = some (.cells cs t (0, 0))) (i : Nat) : w.frozen? ⟨g, i, none⟩ = false := by
  unfold World.frozen?
  simp [h]
theorem blk_set {w : World} {g : Nat} {cs : Array Value} {t : TypeId} {fr : Nat × Nat} (h : w.heap[g]? = some (.cells cs t fr)) (i : Nat) (v : Value) : (w.setCell ⟨g, i, none⟩ v).heap[g]? = some (.cells (cs.setIfInBounds i v) t fr) := by
  simp [World.setCell, Array.getElem?_modify, h]
theorem blk_new (w : World) (o : Obj) : (w.alloc o).heap[w.heap.size]? = some o := by
  show (w.heap.push o)[w.heap.size]? = some o
  simp
theorem blk_other {w : World} {g : Nat} {o : Obj} (h : w.heap[g]? = some o) (p : Addr) (v : Value) (hp : g ≠ p.block) : (w.setCell p v).heap[g]? = some o := (Below.heap_setCell w p v g hp).trans h
theorem blk_old {w : World} {g : Nat} {o : Obj} (h : w.heap[g]? = some o) (o' : Obj) : (w.alloc o').heap[g]? = some o := (Below.heap_alloc w o' g (blk_lt h)).trans h
theorem blk_below {w w' : World} {g : Nat} {o : Obj} (h : w.heap[g]? = some o) (hb : Below w.heap.size w w') : w'.heap[g]? = some o := (hb.block g (blk_lt h)).trans h
end Tess
