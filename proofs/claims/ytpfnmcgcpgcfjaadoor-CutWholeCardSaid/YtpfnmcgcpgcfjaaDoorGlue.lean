/- What a row hands to a statement about data: the arguments opened, the tables of utf8, a world for the witness. -/
import Derived.Test.YtpfnmcgcpgcfjaaDoorRows
import Derived.Test.YtpfnmcgcpgcfjaaDoorUtf2
import Derived.Test.YtpfnmcgcpgcfjaaDoorWords2
import Derived.SliceStrings
import Derived.Deep.Slices
import Derived.Deep.Fields
import Derived.ChangeSame
import Derived.Lib.LaidIn
import Derived.Lib.LaidU8
import Derived.PinnedBridge
import Derived.Deep.DeepHandedRow
import Derived.Deep.DeepWitnessRowRef
import Derived.ProofKit
import Derived.OpenShut
import Derived.SizedLaws
import Derived.ShutString
namespace Tess
open Go Go.RowKit Go.ChangeShapes Go.WideShapes Go.Deep
section
variable {H : Type} {enc : TypeId × Value → H} {P : Program} {w : World} {base : Nat} {held : Bool}
theorem reach_val : reachBytes = 140737488351232 := rfl
theorem mem_all {e : TypeId} {d : DataW H} {n : Nat} : ∀ {l : List (DataW H)}, d ∈ l → n ∈ d.weights P e → n ∈ DataW.weightsAll P e l := by
  intro l
  induction l with
  | nil => intro h; cases h
  | cons x l ih =>
    intro h hn
    simp only [DataW.weightsAll, List.mem_append]
    rcases List.mem_cons.1 h with rfl | h
    · exact .inl hn
    · exact .inr (ih h hn)
theorem mem_slice {t e : TypeId} {el sp : List (DataW H)} (ht : P.underlying t = some (.slice e)) : (el.length + sp.length) * P.bytesOf e ∈ (DataW.slice el sp : DataW H).weights P t ∧ ∀ d ∈ el, ∀ n ∈ d.weights P e, n ∈ (DataW.slice el sp : DataW H).weights P t := by
  constructor
  · simp [DataW.weights, ht]
  · intro d hd n hn
    simp only [DataW.weights, ht]
    exact List.mem_cons_of_mem _ (List.mem_append_left _ (mem_all hd hn))
theorem spot_none {a : Addr} {v : Value} (h : w.cell? (a.add 0) = some v) : a = ⟨a.block, a.off, none⟩ := by
  obtain ⟨b, o, s⟩ := a
  cases s with
  | none => rfl
  | some x =>
    exfalso
    unfold World.cell? at h
    simp only [Addr.add, if_true] at h
    split at h <;> simp at h
theorem add_plain (b o j : Nat) : (⟨b, o, none⟩ : Addr).add j = ⟨b, o + j, none⟩ := by
  unfold Addr.add
  split
  · rename_i h; subst h; rfl
  · rfl
/-- A slice of strings. -/
theorem strs_in {t e : TypeId} {fuel : Nat} {v : Value} {x : DataW H × List MemPlace} (ht : P.underlying t = some (.slice e)) (he : P.underlying e = some .string) (hc : P.cellsOf e = 1) (hb : P.bytesOf e = 16)
    (h : DataW.trod enc P w base (fun _ => true) held fuel t [v] = some x) (hs : ∀ n ∈ x.1.weights P t, n ≤ reachBytes) : ∃ l, StrsIn w v l := by
  rcases open_strings ht he hc h with ⟨hv, _⟩ | ⟨a, len, cap, ss, hv, _, hl, hm, hlen, rfl, hcell, _⟩
  · simp only [List.cons.injEq, and_true] at hv
    subst hv
    exact ⟨[], by simp, fun i => by simp [wAt], none, 0, rfl, fun h => by simp at h⟩
  · simp only [List.cons.injEq, and_true] at hv
    subst hv
    simp only [if_true] at hlen
    have hbig := hs _ (mem_slice ht).1
    rw [reach_val, hb] at hbig
    simp only [strs, List.length_map, List.length_take, List.length_drop] at hbig
    have hw : ∀ i, i < len → wAt (ss.take len) i = ss.getD i ByteArray.empty := by
      intro i hi
      unfold wAt
      rw [List.getD_eq_getElem?_getD, List.getD_eq_getElem?_getD, List.getElem?_take, if_pos hi]
    have hll : (ss.take len).length = len := by rw [List.length_take]; omega
    refine ⟨ss.take len, by omega, fun i => ?_, some a, cap, by rw [hll], fun h0 => ⟨a.block, a.off, ?_, fun i hi => ?_⟩⟩
    · by_cases hi : i < len
      · have hmem : (DataW.lit (.string (wAt (ss.take len) i).data.toList) : DataW H) ∈ strs (H := H) (ss.take len) := by
          unfold strs
          refine List.mem_map.2 ⟨_, ?_, rfl⟩
          unfold wAt
          rw [List.getD_eq_getElem?_getD, List.getElem?_eq_getElem (by omega)]
          exact List.getElem_mem _
        have := hs _ ((mem_slice ht).2 _ hmem (wAt (ss.take len) i).data.toList.length (by simp [DataW.weights]))
        rw [reach_val, Array.length_toList] at this
        have e : (wAt (ss.take len) i).size = (wAt (ss.take len) i).data.size := rfl
        omega
      · unfold wAt
        rw [List.getD_eq_getElem?_getD, List.getElem?_eq_none (by omega)]
        decide
    · rw [hll] at h0
      have := hcell 0 (by omega)
      rw [← spot_none this]
    · rw [hll] at hi
      have h1 := hcell i (by omega)
      have h2 := spot_none (hcell 0 (by omega))
      rw [h2, add_plain] at h1
      rw [hw i hi]
      exact h1
/-- A slice of structs of int32s, two each. -/
theorem spans_in {t e : TypeId} {f0 f1 : Field} {fuel : Nat} {v : Value} {x : DataW H × List MemPlace} (ht : P.underlying t = some (.slice e)) (he : P.underlying e = some (.struct #[f0, f1])) (ce : P.cellsOf e = 2) (hb : P.bytesOf e = 8)
    (o0 : f0.offset = 0) (o1 : f1.offset = 1) (u0 : P.underlying f0.type = some (.int .i32)) (u1 : P.underlying f1.type = some (.int .i32)) (c0 : P.cellsOf f0.type = 1) (c1 : P.cellsOf f1.type = 1)
    (h : DataW.trod enc P w base (fun _ => true) held fuel t [v] = some x) (hs : ∀ n ∈ x.1.weights P t, n ≤ reachBytes) : ∃ l, SpansIn w v l := by
  rcases open_slice ht h with ⟨hv, _⟩ | ⟨a, len, cap, m, n, D, Pl, hv, _, hl, hm, hmm, rfl, hx⟩
  · simp only [List.cons.injEq, and_true] at hv
    subst hv
    exact ⟨[], by simp, none, 0, rfl, fun h => by simp at h⟩
  · simp only [List.cons.injEq, and_true] at hv
    subst hv
    simp only [if_true] at hmm
    have hbig := hs _ (mem_slice ht).1
    rw [reach_val, hb] at hbig
    simp only [List.length_map, List.length_range] at hbig
    have each : ∀ i, i < len → ∃ q : Int × Int, w.cell? (a.add (i * 2)) = some (.int .i32 q.1) ∧ w.cell? (a.add (i * 2 + 1)) = some (.int .i32 q.2) := by
      intro i hi
      obtain ⟨cs', h1, h2⟩ := hx i (by omega)
      rw [ce] at h1
      obtain ⟨_, hlen, hcell⟩ := World.cells?_some h1
      obtain ⟨xs, k, hk, hxy, _, hxl, hf⟩ := DataW.trod_struct he h2
      match xs, hxl, cs', hlen with
      | [y0, y1], _, [v0, v1], _ =>
        have g0 := hf 0 f0 rfl
        have g1 := hf 1 f1 rfl
        simp [o0, o1, c0, c1] at g0 g1
        obtain ⟨z0, hz0, _⟩ := DataW.trod_int u0 g0
        obtain ⟨z1, hz1, _⟩ := DataW.trod_int u1 g1
        simp only [List.cons.injEq, and_true] at hz0 hz1
        have e0 := hcell 0 (by omega)
        have e1 := hcell 1 (by omega)
        rw [Go.Deep.add_add] at e0 e1
        exact ⟨(z0, z1), by simpa [hz0] using e0, by simpa [hz1] using e1⟩
    obtain ⟨q, hq⟩ := choose_lt each
    have hll : ((List.range len).map q).length = len := by simp
    refine ⟨(List.range len).map q, by omega, some a, cap, by rw [hll], fun h0 => ⟨a.block, a.off, ?_, fun i hi => ?_⟩⟩
    · rw [hll] at h0
      rw [← spot_none (a := a) (by simpa using (hq 0 h0).1)]
    · rw [hll] at hi
      obtain ⟨h1, h2⟩ := hq i hi
      have h3 := spot_none (a := a) (by simpa using (hq 0 (by omega)).1)
      rw [h3, add_plain] at h1 h2
      have e : ((List.range len).map q).getD i (0, 0) = q i := by simp [hi]
      rw [e]
      exact ⟨h1, h2⟩
theorem wf_i64 {n : Int} (h : (Lit.int .i64 n).wf = true) : -9223372036854775808 ≤ n ∧ n ≤ 9223372036854775807 := by
  simp only [Lit.wf, Bool.and_eq_true, decide_eq_true_eq] at h
  have e1 : IntKind.min .i64 = -9223372036854775808 := rfl
  have e2 : IntKind.max .i64 = 9223372036854775807 := rfl
  omega
/-- A slice of structs of ints, three each. -/
theorem merges_in {t e : TypeId} {f0 f1 f2 : Field} {fuel : Nat} {v : Value} {x : DataW H × List MemPlace} (ht : P.underlying t = some (.slice e)) (he : P.underlying e = some (.struct #[f0, f1, f2])) (ce : P.cellsOf e = 3) (hb : P.bytesOf e = 24)
    (o0 : f0.offset = 0) (o1 : f1.offset = 1) (o2 : f2.offset = 2) (u0 : P.underlying f0.type = some (.int .i64)) (u1 : P.underlying f1.type = some (.int .i64)) (u2 : P.underlying f2.type = some (.int .i64))
    (c0 : P.cellsOf f0.type = 1) (c1 : P.cellsOf f1.type = 1) (c2 : P.cellsOf f2.type = 1)
    (h : DataW.trod enc P w base (fun _ => true) held fuel t [v] = some x) (hs : ∀ n ∈ x.1.weights P t, n ≤ reachBytes) : ∃ l, MergesIn w v l := by
  rcases open_slice ht h with ⟨hv, _⟩ | ⟨a, len, cap, m, n, D, Pl, hv, _, hl, hm, hmm, rfl, hx⟩
  · simp only [List.cons.injEq, and_true] at hv
    subst hv
    exact ⟨[], by simp, fun i => by simp [mL, mR, mI], none, 0, rfl, fun h => by simp at h⟩
  · simp only [List.cons.injEq, and_true] at hv
    subst hv
    simp only [if_true] at hmm
    have hbig := hs _ (mem_slice ht).1
    rw [reach_val, hb] at hbig
    simp only [List.length_map, List.length_range] at hbig
    have each : ∀ i, i < len → ∃ q : Mg, w.cell? (a.add (i * 3)) = some (.int .i64 q.1) ∧ w.cell? (a.add (i * 3 + 1)) = some (.int .i64 q.2.1) ∧ w.cell? (a.add (i * 3 + 2)) = some (.int .i64 q.2.2) ∧
        (-9223372036854775808 ≤ q.1 ∧ q.1 ≤ 9223372036854775807) ∧ (-9223372036854775808 ≤ q.2.1 ∧ q.2.1 ≤ 9223372036854775807) ∧ (-9223372036854775808 ≤ q.2.2 ∧ q.2.2 ≤ 9223372036854775807) := by
      intro i hi
      obtain ⟨cs', h1, h2⟩ := hx i (by omega)
      rw [ce] at h1
      obtain ⟨_, hlen, hcell⟩ := World.cells?_some h1
      obtain ⟨xs, k, hk, hxy, _, hxl, hf⟩ := DataW.trod_struct he h2
      match xs, hxl, cs', hlen with
      | [y0, y1, y2], _, [v0, v1, v2], _ =>
        have g0 := hf 0 f0 rfl
        have g1 := hf 1 f1 rfl
        have g2 := hf 2 f2 rfl
        simp [o0, o1, o2, c0, c1, c2] at g0 g1 g2
        obtain ⟨z0, hz0, _, r0⟩ := DataW.trod_int u0 g0
        obtain ⟨z1, hz1, _, r1⟩ := DataW.trod_int u1 g1
        obtain ⟨z2, hz2, _, r2⟩ := DataW.trod_int u2 g2
        simp only [List.cons.injEq, and_true] at hz0 hz1 hz2
        have e0 := hcell 0 (by omega)
        have e1 := hcell 1 (by omega)
        have e2 := hcell 2 (by omega)
        rw [Go.Deep.add_add] at e0 e1 e2
        exact ⟨(z0, z1, z2), by simpa [hz0] using e0, by simpa [hz1] using e1, by simpa [hz2] using e2, wf_i64 r0, wf_i64 r1, wf_i64 r2⟩
    obtain ⟨q, hq⟩ := choose_lt each
    have hll : ((List.range len).map q).length = len := by simp
    have hget : ∀ i, i < len → ((List.range len).map q).getD i (0, 0, 0) = q i := fun i hi => by simp [hi]
    refine ⟨(List.range len).map q, by omega, fun i => ?_, some a, cap, by rw [hll], fun h0 => ⟨a.block, a.off, ?_, fun i hi => ?_⟩⟩
    · unfold mL mR mI
      by_cases hi : i < len
      · rw [hget i hi]
        exact ⟨(hq i hi).2.2.2.1, (hq i hi).2.2.2.2.1, (hq i hi).2.2.2.2.2⟩
      · rw [List.getD_eq_getElem?_getD, List.getElem?_eq_none (by omega)]
        simp
    · rw [hll] at h0
      rw [← spot_none (a := a) (by simpa using (hq 0 h0).1)]
    · rw [hll] at hi
      obtain ⟨h1, h2, h4, _⟩ := hq i hi
      have h3 := spot_none (a := a) (by simpa using (hq 0 (by omega)).1)
      rw [h3, add_plain] at h1 h2 h4
      unfold mL mR mI
      rw [hget i hi]
      exact ⟨h1, h2, h4⟩
end
end Tess
namespace Go.Proofs.YtpfnmcgcpgcfjaaDoor
open Go.RowKit Tess Go.ChangeShapes Go.WideShapes Go.ChangeAt Go.Lib
open Go.ChangeMaps (open_string shut_string)
theorem own : ownKnob Tryd.prog.godebug = none := by kernel_rfl
theorem laidOut : laidOutB Tryd.prog = true := by kernel_rfl
theorem cData : Tryd.prog.cellsOf 26 = 5 := by kernel_rfl
theorem cStrs : Tryd.prog.cellsOf 22 = 1 := by kernel_rfl
theorem cMgs : Tryd.prog.cellsOf 23 = 1 := by kernel_rfl
theorem cSps : Tryd.prog.cellsOf 24 = 1 := by kernel_rfl
theorem cStr : Tryd.prog.cellsOf 9 = 1 := by kernel_rfl
theorem bStr : Tryd.prog.bytesOf 9 = 16 := by kernel_rfl
theorem cMg : Tryd.prog.cellsOf 133 = 3 := by kernel_rfl
theorem bMg : Tryd.prog.bytesOf 133 = 24 := by kernel_rfl
theorem cSp : Tryd.prog.cellsOf 135 = 2 := by kernel_rfl
theorem bSp : Tryd.prog.bytesOf 135 = 8 := by kernel_rfl
theorem cInt : Tryd.prog.cellsOf 3 = 1 := by kernel_rfl
theorem cI32 : Tryd.prog.cellsOf 21 = 1 := by kernel_rfl
set_option maxRecDepth 100000 in
/-- Data as they came in: five slices that read as a model's data. -/
theorem data_in {H : Type} {enc : TypeId × Value → H} {w : World} {base b0 : Nat} {held : Bool} {v : Value} {d : DataW H} {p : List MemPlace} (hv : Value.okWide Tryd.prog w .any b0 26 v)
    (h : DataW.Trod enc Tryd.prog w base (fun _ => true) held 26 v d p) (hs : ∀ n ∈ d.weights Tryd.prog 26, n ≤ reachBytes) : ∃ vw vm va vb vc D, v = .agg #[vw, vm, va, vb, vc] ∧ DataIn w vw vm va vb vc D := by
  have hst := Tryd.underlying26
  obtain ⟨cs, rfl, hsz⟩ := okWide_struct hst hv
  rw [cData] at hsz
  obtain ⟨l⟩ := cs
  match l, hsz with
  | [c0, c1, c2, c3, c4], _ =>
    obtain ⟨fuel, hf⟩ := h
    obtain ⟨xs, n, _, hx, _, hlen, hg⟩ := DataW.trod_struct hst hf
    match xs, hlen with
    | [y0, y1, y2, y3, y4], _ =>
      simp only [Prod.mk.injEq] at hx
      obtain ⟨rfl, _⟩ := hx
      have g0 := hg 0 _ rfl
      have g1 := hg 1 _ rfl
      have g2 := hg 2 _ rfl
      have g3 := hg 3 _ rfl
      have g4 := hg 4 _ rfl
      simp [Value.cells, cStrs, cMgs, cSps] at g0 g1 g2 g3 g4
      simp only [DataW.weights, hst, List.map_cons, List.map_nil, DataW.weightsEach, List.mem_append] at hs
      obtain ⟨l0, h0⟩ := strs_in Tryd.underlying22 Tryd.underlying9 cStr bStr g0 fun n hn => hs n (.inl hn)
      obtain ⟨l1, h1⟩ := merges_in Tryd.underlying23 Tryd.underlying133 cMg bMg rfl rfl rfl Tryd.underlying3 Tryd.underlying3 Tryd.underlying3 cInt cInt cInt g1 fun n hn => hs n (.inr (.inl hn))
      obtain ⟨l2, h2⟩ := spans_in Tryd.underlying24 Tryd.underlying135 cSp bSp rfl rfl Tryd.underlying21 Tryd.underlying21 cI32 cI32 g2 fun n hn => hs n (.inr (.inr (.inl hn)))
      obtain ⟨l3, h3⟩ := spans_in Tryd.underlying24 Tryd.underlying135 cSp bSp rfl rfl Tryd.underlying21 Tryd.underlying21 cI32 cI32 g3 fun n hn => hs n (.inr (.inr (.inr (.inl hn))))
      obtain ⟨l4, h4⟩ := spans_in Tryd.underlying24 Tryd.underlying135 cSp bSp rfl rfl Tryd.underlying21 Tryd.underlying21 cI32 cI32 g4 fun n hn => hs n (.inr (.inr (.inr (.inr (.inl hn)))))
      exact ⟨c0, c1, c2, c3, c4, ⟨l0, l1, l2, l3, l4⟩, rfl, ⟨h0, h1, h2, h3, h4⟩⟩
/-- The rows' list of variables. -/
abbrev laidTabs : List (String × DataW Unit) := [("unicode/utf8.acceptRanges", Rows.laid_unicode_utf8_acceptRanges), ("unicode/utf8.first", Rows.laid_unicode_utf8_first)]
theorem accept_eq : (Rows.laid_unicode_utf8_acceptRanges : DataW Unit) = acceptData := by kernel_rfl
theorem first_eq : Rows.laid_unicode_utf8_first = firstData := Pinned.utf8First_eq
theorem tabs_of {W : World} (hL : laidMetH Tryd.prog laidTabs W) : Tabs W := by
  have h4 := Lib.laidMet.reads hL (.head _)
  have h3 := Lib.laidMet.reads hL (.tail _ (.head _))
  rw [accept_eq] at h4
  rw [first_eq] at h3
  exact utf8Tabs_of_reads Tryd.lays260 ⟨by kernel_rfl, by kernel_rfl, by kernel_rfl, by kernel_rfl, by kernel_rfl, by kernel_rfl, by kernel_rfl⟩ h3 h4
/-- A world for the witness: the two tables hold what their initialisers lay. -/
noncomputable def laidWorld (os : Os) : World :=
  let w0 := World.holding Tryd.prog os ⟨#[], #[], []⟩
  let put (h : Array Obj) (g : Nat) (cs : Array Value) : Array Obj := h.modify g fun
    | .cells _ t frozen => .cells cs t frozen
    | o => o
  let h1 := put w0.heap 0 (Lib.firstTab.map fun z => Value.int .u8 z).toArray
  let h2 := put h1 1 ((List.range 16).flatMap fun i => [Value.int .u8 (Lib.accLo i), Value.int .u8 (Lib.accHi i)]).toArray
  { w0 with heap := h2 }
theorem laid_met (os : Os) (args : Array Value) : laidMet Tryd.prog laidTabs ((laidWorld os).forCall (fun _ _ => 0) ⟨#[], args, []⟩).memory := by
  have e : laidTabs = [("unicode/utf8.acceptRanges", acceptData), ("unicode/utf8.first", firstData)] := by unfold laidTabs; rw [accept_eq, first_eq]
  rw [e]
  exact (LaidIn.of_run (l := [("unicode/utf8.acceptRanges", acceptData), ("unicode/utf8.first", firstData)]) [1, 0] 8 (by kernel_rfl) (by kernel_rfl) (by kernel_rfl) (by kernel_rfl)).met
def data0 : Value := .agg #[.slice none 0 0, .slice none 0 0, .slice none 0 0, .slice none 0 0, .slice none 0 0]
end Go.Proofs.YtpfnmcgcpgcfjaaDoor
