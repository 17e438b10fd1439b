/- Maps keyed by numbers that hold true: which keys they have. Over any program. -/
import Derived.Test.YtpfnmcgcpgcfjaaDoorUpd
namespace Tess
open Go Go.RowKit
def BoolMap (w : World) (r : Nat) (ks : List Int) : Prop :=
  ∃ es c, w.heap[r]? = some (.map es c) ∧ (∀ e ∈ es.toList, ∃ k, e.key = .int .i64 k ∧ e.val = .bool true) ∧ ∀ k, k ∈ ks ↔ ∃ e ∈ es.toList, e.key = .int .i64 k
theorem BoolMap.below {w w' : World} {r : Nat} {ks : List Int} (h : BoolMap w r ks) (hb : Below w.heap.size w w') : BoolMap w' r ks := by
  obtain ⟨es, c, h1, h2⟩ := h
  exact ⟨es, c, blk_below h1 hb, h2⟩
theorem findNow_bool (k : Int) : ∀ (es : List MapEntry) (a : Nat), (∀ e ∈ es, ∃ k, e.key = .int .i64 k ∧ e.val = .bool true) →
    ((∀ e ∈ es, e.key ≠ .int .i64 k) ∧ Instr.findNow (.int .i64) (.int .i64 k) es a = some none) ∨
    (∃ j, ∃ e, es[j]? = some e ∧ e.key = .int .i64 k ∧ Instr.findNow (.int .i64) (.int .i64 k) es a = some (some (a + j, .bool true))) := by
  intro es
  induction es with
  | nil => intro a _; exact .inl ⟨by simp, rfl⟩
  | cons e es ih =>
    intro a h
    obtain ⟨k', hk', hv⟩ := h e (by simp)
    by_cases hkk : k = k'
    · subst hkk
      refine .inr ⟨0, e, rfl, hk', ?_⟩
      simp [Instr.findNow, hk', hv, Instr.sameNow]
    · have hn : Instr.findNow (.int .i64) (.int .i64 k) (e :: es) a = Instr.findNow (.int .i64) (.int .i64 k) es (a + 1) := by
        have : (k == k') = false := by simpa using hkk
        simp [Instr.findNow, hk', Instr.sameNow, this]
      rw [hn]
      rcases ih (a + 1) (fun e he => h e (List.mem_cons_of_mem _ he)) with ⟨h1, h2⟩ | ⟨j, e', h1, h2, h3⟩
      · refine .inl ⟨fun e1 he => ?_, h2⟩
        rcases List.mem_cons.1 he with rfl | he
        · rw [hk']; intro e2; cases e2; exact hkk rfl
        · exact h1 e1 he
      · exact .inr ⟨j + 1, e', by simpa using h1, h2, by rw [h3]; congr 3; omega⟩
section
variable {P : Program}
theorem bool_lookup {T K E : TypeId} (hT : P.underlying T = some (.map K E)) (hK : P.underlying K = some (.int .i64)) (hz : ∀ w, (zeroValue E).run P w = .ok (.bool false) w)
    (w : World) (r : Nat) (ks : List Int) (k : Int) (h : BoolMap w r ks) : (Instr.lookup T (.map (some r)) (.int .i64 k) false).run P w = .ok (.bool (decide (k ∈ ks))) w := by
  obtain ⟨es, c, h1, h2, h3⟩ := h
  unfold Instr.lookup Instr.checkKey Instr.findKey
  simp only [Sem.run_bind, run_underlying hT, Result.andThen]
  rcases findNow_bool k es.toList 0 h2 with ⟨h4, h5⟩ | ⟨j, e, h4, h5, h6⟩
  · have hn : ¬ k ∈ ks := fun hm => by
      obtain ⟨e, he, hk⟩ := (h3 k).1 hm
      exact h4 e he hk
    simp [getObj, Sem.run, h1, Result.andThen, run_underlying hK, h5, hz, hn]
  · have hm : k ∈ ks := (h3 k).2 ⟨e, List.mem_of_getElem? h4, h5⟩
    simp [getObj, Sem.run, h1, Result.andThen, run_underlying hK, h6, hm]
theorem bool_update {T K E : TypeId} (hT : P.underlying T = some (.map K E)) (hK : P.underlying K = some (.int .i64))
    (w : World) (r : Nat) (ks : List Int) (k : Int) (h : BoolMap w r ks) : ∃ o, (Instr.mapUpdate T (.map (some r)) (.int .i64 k) (.bool true)).run P w = .ok () (put w r o) ∧ BoolMap (put w r o) r (k :: ks) := by
  obtain ⟨es, c, h1, h2, h3⟩ := h
  have hr := blk_lt h1
  rcases findNow_bool k es.toList 0 h2 with ⟨h4, h5⟩ | ⟨j, e, h4, h5, h6⟩
  · refine ⟨.map (es.push { key := .int .i64 k, val := .bool true, born := c }) (c + 1), ?_, _, _, put_same _ _ _ hr, fun e he => ?_, fun k' => ?_⟩
    · unfold Instr.mapUpdate Instr.checkKey Instr.findKey
      simp only [Sem.run_bind, run_underlying hT, Result.andThen]
      simp [getObj, setObj, Sem.run, h1, Result.andThen, run_underlying hK, h5, put]
    · rw [Array.toList_push] at he
      rcases List.mem_append.1 he with he | he
      · exact h2 e he
      · simp only [List.mem_singleton] at he
        subst he
        exact ⟨k, rfl, rfl⟩
    · rw [Array.toList_push]
      simp only [List.mem_cons, List.mem_append, List.not_mem_nil, or_false]
      constructor
      · rintro (rfl | hk)
        · exact ⟨_, .inr rfl, rfl⟩
        · obtain ⟨e, he, hk⟩ := (h3 k').1 hk
          exact ⟨e, .inl he, hk⟩
      · rintro ⟨e, he | rfl, hk⟩
        · exact .inr ((h3 k').2 ⟨e, he, hk⟩)
        · simp at hk
          exact .inl hk.symm
  · have hj := (List.getElem?_eq_some_iff.1 h4).1
    refine ⟨.map es c, ?_, es, c, put_same _ _ _ hr, h2, fun k' => ?_⟩
    · obtain ⟨k2, hk2, hv2⟩ := h2 e (List.mem_of_getElem? h4)
      have hja : es[j]? = some e := by rw [← Array.getElem?_toList]; exact h4
      have hjb : j < es.size := (Array.getElem?_eq_some_iff.1 hja).1
      have hjc : es[j] = e := (Array.getElem?_eq_some_iff.1 hja).2
      have he : es.modify j (fun e => { e with key := .int .i64 k, val := .bool true }) = es := by
        apply Array.ext
        · simp
        · intro i h7 h8
          rw [Array.getElem_modify]
          split
          · rename_i hi
            subst hi
            rw [hjc]
            cases e
            simp only at h5 hv2
            rw [h5, hv2]
          · rfl
      unfold Instr.mapUpdate Instr.checkKey Instr.findKey
      simp only [Sem.run_bind, run_underlying hT, Result.andThen]
      simp [getObj, setObj, Sem.run, h1, Result.andThen, run_underlying hK, h6, put, Instr.keyThatStays, Instr.sameBits, hjc, hjb, h5]
      exact congrArg (fun x => w.heap.setIfInBounds r (Obj.map x c)) he
    · simp only [List.mem_cons]
      constructor
      · rintro (rfl | hk)
        · exact ⟨e, List.mem_of_getElem? h4, h5⟩
        · exact (h3 k').1 hk
      · intro hk
        exact .inr ((h3 k').2 hk)
end
end Tess
