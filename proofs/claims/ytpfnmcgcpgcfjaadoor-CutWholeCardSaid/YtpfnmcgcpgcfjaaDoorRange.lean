/- A range over utf.Items in any function: the law, with the boxed loop variable said by the act itself. -/
import Derived.Test.YtpfnmcgcpgcfjaaDoorRun2
namespace Go.Proofs.YtpfnmcgcpgcfjaaDoor
open Go.RowKit Tess Go.Shelf
/-- The act and the world behind the assignment to the loop's variable, which lies boxed (its pointer in slot v). -/
def ItemAt (a : Act) (p v lo : Nat) (xa : Nat) (x : It) (a' : Act) (W : World) : Prop :=
  ∃ Bx, lo ≤ Bx ∧ XBox W Bx xa x ∧ a' = { tmps := (a.tmps.setIfInBounds p (itV xa x)).setIfInBounds v (.pointer (some ⟨Bx, 0, none⟩)), defers := [] }
theorem range_items {n : Nat} {g : Operand} {p : Nat} {assign body : Code} {Q : Exit → Act → World → Prop} {a : Act} {w : World} (h1 : 3 ≤ n) (Bn n₀ B T v : Nat) (ht1 : 9 ≠ T) (ht2 : 43 ≠ T) (s : ByteArray) (hs : s.size ≤ 140737488355328)
    (hg : a.eval g = .func (.func 60) #[] #[.pointer (some ⟨Bn, 0, none⟩)]) (hBn : B ≤ Bn) (h2 : 2 ≤ n₀) (hc : Boxed w Bn 9 (.string s)) (hT : Tabs w) (hz : n₀ ≤ w.heap.size) (hzB : B ≤ w.heap.size)
    (I : List (ItsOf s.data.toList) → World → Prop) (Ix : Code → List (ItsOf s.data.toList) → World → Prop) (hI : OwnFrom w.heap.size I) (hIx : ∀ c, OwnFrom w.heap.size (Ix c)) (h0 : I [] w)
    (hassign : ∀ (l : Nat) (pre : List (ItsOf s.data.toList)) (x : ItsOf s.data.toList) (W : World) (K : Act → World → Prop), I pre W → w.heap.size ≤ W.heap.size → (∀ a' W', KeepsFrom w.heap.size W W' → Rnd n₀ B T W W' → I pre W' → ItemAt a p v w.heap.size x.1.1 x.1.2 a' W' → K a' W') →
      assign.wpIn (Fence.wide.inRound l) (n - 1 - 1) Tryd.prog (Exit.then K (fun _ _ _ => False)) { tmps := a.tmps.setIfInBounds p (itV x.1.1 x.1.2), defers := [] } W)
    (hI2 : ∀ pre W, I pre W → w.heap.size ≤ W.heap.size)
    (hbody : ∀ (l : Nat) (pre : List (ItsOf s.data.toList)) (x : ItsOf s.data.toList) (a' : Act) (W : World), I pre W → ItemAt a p v w.heap.size x.1.1 x.1.2 a' W → pre.length < (items s.data.toList).length → body.wpIn (Fence.wide.inRound l) (n - 1 - 1) Tryd.prog (ownPostG w.heap.size (Rnd n₀ B T) I Ix (pre ++ [x]) W) a' W)
    (hdone : ∀ (D : Nat) (xs : List (ItsOf s.data.toList)) (W : World), w.heap.size ≤ D → its xs = items s.data.toList → xs.map (·.1) = itemsAt 0 (items s.data.toList) → I xs W → W.heap[D]? = some (.deferred (some [])) → Q .normal { a with defers := { target := .collected D, args := #[] } :: a.defers } W)
    (hstop : ∀ (D : Nat) (c : Code) (pre : List (ItsOf s.data.toList)) (W : World), w.heap.size ≤ D → (∃ t, items s.data.toList = its pre ++ t) → Ix c pre W → W.heap[D]? = some (.deferred (some [])) → c.wpIn Fence.wide n Tryd.prog Q { a with defers := { target := .collected D, args := #[] } :: a.defers } W) :
    (Code.rangeFunc g #[p] assign body).wpIn Fence.wide n Tryd.prog Q a w := by
  refine wpIn_rangeFunc_ownH rfl (by omega) (gf := 60) (lb := #[.pointer (some ⟨Bn, 0, none⟩)]) hg trivial (enters_of Tryd.func60 (by kernel_rfl) rfl)
    (Items_stops (n - 1) (by omega) Bn n₀ B T ht1 ht2 s hs hBn h2 w hc hT hz hzB) rnd_t (rnd_b hz) (Below.refl _ _) (fun _ => rfl) I Ix hI hIx h0 (fun x a' W => ItemAt a p v w.heap.size x.1.1 x.1.2 a' W)
    (fun x a' _ X Y row hs hg hr => by
      obtain ⟨Bx, h1, h2, h3⟩ := hs
      exact ⟨Bx, h1, blk_kept h2 hg hr, h3⟩)
    (fun l pre x W K hi hK => by
      have := hassign l pre x W K hi (hI2 _ _ hi) hK
      simpa using this) (fun l pre x a' W _ _ hi ha hlt => hbody l pre x a' W hi ha hlt) (fun D xs W hD hS hi hK => hdone D xs W hD (its_all hS) hS hi hK) (fun D c pre W hD hS hi hK => hstop D c pre W hD (its_pre hS) hi hK)
end Go.Proofs.YtpfnmcgcpgcfjaaDoor
