/- Contract of cut.run. -/
import Derived.Test.YtpfnmcgcpgcfjaaDoorUtf2
import Derived.Test.YtpfnmcgcpgcfjaaDoorKeepOf
namespace Tess
open Go Go.RowKit Go.Shelf
def its {L : List UInt8} (l : List (ItsOf L)) : List It := l.map fun x => x.1.2
theorem its_snoc {L : List UInt8} (l : List (ItsOf L)) (x : ItsOf L) : its (l ++ [x]) = its l ++ [x.1.2] := by simp [its]
theorem its_all {L : List UInt8} {l : List (ItsOf L)} (h : l.map (·.1) = itemsAt 0 (items L)) : its l = items L := by
  have := congrArg (List.map (·.2)) h
  rw [itemsAt_snd, List.map_map] at this
  exact this
theorem its_pre {L : List UInt8} {l : List (ItsOf L)} (h : l.map (·.1) <+: itemsAt 0 (items L)) : ∃ t, items L = its l ++ t := by
  obtain ⟨t, ht⟩ := h
  have := congrArg (List.map (·.2)) ht
  rw [itemsAt_snd, List.map_append, List.map_map] at this
  exact ⟨_, this.symm⟩
theorem sizes_le4 {L : List UInt8} (l : List (ItsOf L)) : sizes (its l) ≤ 4 * l.length := by
  induction l with
  | nil => simp [its, sizes]
  | cons x l ih =>
    have := (itemsAt_mem 0 x.2).2.2.2.1
    show sizes (x.1.2 :: its l) ≤ _
    rw [sizes_cons, List.length_cons]
    omega
theorem items_len (L : List UInt8) : (items L).length ≤ L.length := by
  have h : ∀ l : List It, (∀ x ∈ l, 1 ≤ x.n) → l.length ≤ sizes l := by
    intro l
    induction l with
    | nil => simp [sizes]
    | cons x l ih =>
      intro h
      have := ih fun y hy => h y (List.mem_cons_of_mem _ hy)
      have := h x (by simp)
      rw [sizes_cons, List.length_cons]
      omega
  have h2 : ∀ x ∈ items L, 1 ≤ x.n := by
    intro x hx
    rw [← itemsAt_snd 0 (items L)] at hx
    obtain ⟨y, hy, rfl⟩ := List.mem_map.1 hx
    exact (itemsAt_mem 0 hy).2.2.1
  have := h _ h2
  rw [items_sizes] at this
  exact this
theorem run_whole {d : Dat} {L : List UInt8} (h : ∀ y ∈ items L, kind d y = headK d (items L)) : runIts d (items L) = items L := by
  unfold runIts headK at *
  cases hl : items L with
  | nil => rfl
  | cons x t =>
    rw [hl] at h
    simp only at h ⊢
    have := List.takeWhile_append_of_pos (p := fun y => kind d y == kind d x) (l₁ := x :: t) (l₂ := []) fun y hy => by simpa using h y hy
    simpa using this
theorem run_stopped {d : Dat} {L : List UInt8} {q t : List It} {x : It} (h : items L = q ++ [x] ++ t) (hq : q ≠ []) (hk : ∀ y ∈ q, kind d y = headK d q) (hx : kind d x ≠ headK d q) : runIts d (items L) = q ∧ headK d (items L) = headK d q := by
  rw [h]
  cases q with
  | nil => exact absurd rfl hq
  | cons y q =>
    unfold runIts headK at *
    simp only [List.cons_append, List.append_assoc] at *
    refine ⟨?_, trivial⟩
    rw [List.takeWhile_cons]
    simp only [beq_self_eq_true, if_true]
    congr 1
    rw [List.takeWhile_append_of_pos (fun z hz => by simpa using hk z (List.mem_cons_of_mem _ hz))]
    simp [hx]
theorem headK_snoc {d : Dat} {q : List It} {x : It} (hq : q ≠ []) : headK d (q ++ [x]) = headK d q := by
  cases q with
  | nil => exact absurd rfl hq
  | cons y q => rfl
theorem lastN_snoc (q : List It) (x : It) : lastN (q ++ [x]) = x.n := by simp [lastN]
end Tess
namespace Go.Proofs.YtpfnmcgcpgcfjaaDoor
open Go.RowKit Tess Go.Shelf
set_option maxHeartbeats 1000000 in
theorem model_Table (w : World) (g t : Nat) (h : w.cell? ⟨g, 5, none⟩ = some (.pointer (some ⟨t, 0, none⟩))) :
    Calls Tryd.prog 19 #[.pointer (some ⟨g, 0, none⟩)] w fun e w' => e = .returned (.pointer (some ⟨t, 0, none⟩)) ∧ w = w' := by
  go_enter Tryd.func19, Tryd.ntmps19
  go_wp2
  go_ret
  exact ⟨rfl, rfl⟩
end Go.Proofs.YtpfnmcgcpgcfjaaDoor
