/- A function's return behind several ranges over functions: all their marks are taken in. -/
import Derived.Test.YtpfnmcgcpgcfjaaDoorUtf2
namespace Tess
open Go Go.RowKit Go.Shelf
/-- What taking in marks from block B on leaves: what lay below, and all cells. -/
structure Settled (B : Nat) (W W' : World) : Prop where
  below : Below B W W'
  same : ∀ (k : Nat) (cs : Array Value) (t : TypeId) (fr : Nat × Nat), W.heap[k]? = some (Obj.cells cs t fr) → W'.heap[k]? = some (Obj.cells cs t fr)
theorem Settled.refl (B : Nat) (W : World) : Settled B W W := ⟨Below.refl _ _, fun _ _ _ _ h => h⟩
theorem Settled.trans {B : Nat} {W W' W'' : World} (h : Settled B W W') (k : Settled B W' W'') : Settled B W W'' := ⟨h.below.trans k.below, fun i cs t fr hi => k.same i cs t fr (h.same i cs t fr hi)⟩
theorem Settled.put {B : Nat} {W : World} {D : Nat} {ds : Option (List Deferred)} (hB : B ≤ D) (hD : W.heap[D]? = some (.deferred ds)) (o : Obj) : Settled B W (W.putObj D o) :=
  ⟨(rnd_b (n₀ := B) (B := 0) (T := 0) (b := B) (Nat.le_refl _) W D (.deferred ds) o hB hD rfl rfl).below, fun k cs t fr hk =>
    ((grownBy_putObj' W D o).block k (Array.getElem?_eq_some_iff.1 hk).1 (fun e => by cases e; rw [hD] at hk; cases hk)).trans hk⟩
theorem leaves_all {F : Fence} {n : Nat} {P : Program} {fn : Func} {tmps : Array Value} {R : Ending → World → Prop} (B : Nat) : ∀ (Ds : List Nat) (W : World), (∀ D ∈ Ds, B ≤ D ∧ W.heap[D]? = some (.deferred (some []))) → Ds.Nodup →
    (∀ W', Settled B W W' → LeavesInM F n P fn tmps R [] .returning W') → LeavesInM F n P fn tmps R (Ds.map fun D => { target := .collected D, args := #[] }) .returning W := by
  intro Ds
  induction Ds with
  | nil => intro W _ _ h; exact h W (Settled.refl _ _)
  | cons D Ds ih =>
    intro W h hn hf
    obtain ⟨hD, hW⟩ := h D (by simp)
    rw [List.nodup_cons] at hn
    refine ⟨by simp, .inl ⟨_, _, rfl, run_takeDeferred hW, ih _ (fun E hE => ?_) hn.2 (fun W' hs => hf W' ((Settled.put hD hW _).trans hs))⟩⟩
    obtain ⟨h1, h2⟩ := h E (List.mem_cons_of_mem _ hE)
    refine ⟨h1, ((grownBy_putObj' W D (.deferred none)).block E (Array.getElem?_eq_some_iff.1 h2).1 (fun e => ?_)).trans h2⟩
    cases e
    exact hn.1 hE
end Tess
