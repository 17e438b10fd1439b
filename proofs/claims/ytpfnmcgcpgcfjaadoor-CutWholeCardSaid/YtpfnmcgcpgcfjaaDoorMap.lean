/- Maps as this program uses them: keyed by strings with numbers; keyed by two numbers with two numbers. Over any program. -/
import Derived.Test.YtpfnmcgcpgcfjaaDoorWords2
namespace Tess
open Go Go.RowKit
theorem beq_bytes (x y : ByteArray) : (x == y) = decide (x = y) := by
  show (x.data == y.data) = _
  rw [Bool.eq_iff_iff]
  simp [ByteArray.ext_iff]
/-- The entries of a map that holds the first n words, each with its number. -/
def seenEnt (ws : List ByteArray) (j : Nat) : MapEntry := { key := .string (wAt ws j), val := .int .i64 (j : Nat), born := j }
def seenOf (ws : List ByteArray) (n : Nat) : Array MapEntry := ((List.range' 0 n).map (seenEnt ws)).toArray
theorem findNow_seen (ws : List ByteArray) (x : ByteArray) : ∀ n a, Instr.findNow .string (.string x) ((List.range' a n).map (seenEnt ws)) a = some ((firstFrom (fun j => decide (wAt ws j = x)) n a).map fun j => (j, Value.int .i64 (j : Nat))) := by
  intro n
  induction n with
  | zero => intro a; rfl
  | succ n ih =>
    intro a
    rw [List.range'_succ, List.map_cons]
    simp only [Instr.findNow, seenEnt, Instr.sameNow, beq_bytes, firstFrom]
    by_cases h : x = wAt ws a
    · rw [decide_eq_true h, if_pos (by simpa using h.symm)]; rfl
    · rw [decide_eq_false h, if_neg (by simpa using fun e => h e.symm)]
      exact ih (a + 1)
section
variable {P : Program}
theorem lookup_seen {T K E : TypeId} (hT : P.underlying T = some (.map K E)) (hK : P.underlying K = some .string) (hz : ∀ w, (zeroValue E).run P w = .ok (.int .i64 0) w)
    (w : World) (r : Nat) (ws : List ByteArray) (n : Nat) (x : ByteArray) (h : w.heap[r]? = some (.map (seenOf ws n) n)) :
    (Instr.lookup T (.map (some r)) (.string x) true).run P w = .ok (.tuple #[.int .i64 (((firstOf (fun j => decide (wAt ws j = x)) n).getD 0 : Nat) : Int), .bool (firstOf (fun j => decide (wAt ws j = x)) n).isSome]) w := by
  have hf := findNow_seen ws x n 0
  unfold Instr.lookup Instr.checkKey Instr.findKey
  simp only [Sem.run_bind, run_underlying hT, Result.andThen]
  simp [getObj, Sem.run, h, Result.andThen, run_underlying hK, seenOf, hf]
  unfold firstOf
  cases firstFrom (fun j => decide (wAt ws j = x)) n 0 with
  | none => simp [hz]
  | some j => simp
theorem seenOf_push (ws : List ByteArray) (n : Nat) : (seenOf ws n).push (seenEnt ws n) = seenOf ws (n + 1) := by
  unfold seenOf
  rw [← Array.toList_inj]
  simp [List.range'_concat]
theorem update_seen {T K E : TypeId} (hT : P.underlying T = some (.map K E)) (hK : P.underlying K = some .string)
    (w : World) (r : Nat) (ws : List ByteArray) (n : Nat) (h : w.heap[r]? = some (.map (seenOf ws n) n)) (hn : firstOf (fun j => decide (wAt ws j = wAt ws n)) n = none) :
    (Instr.mapUpdate T (.map (some r)) (.string (wAt ws n)) (.int .i64 (n : Nat))).run P w = .ok () { w with heap := w.heap.setIfInBounds r (.map (seenOf ws (n + 1)) (n + 1)) } := by
  have hf : Instr.findNow .string (.string (wAt ws n)) (seenOf ws n).toList 0 = some none := by
    have := findNow_seen ws (wAt ws n) n 0
    unfold firstOf at hn
    rw [hn] at this
    exact this
  have hp := seenOf_push ws n
  unfold Instr.mapUpdate Instr.checkKey Instr.findKey
  simp only [Sem.run_bind, run_underlying hT, Result.andThen]
  simp [getObj, setObj, Sem.run, h, Result.andThen, run_underlying hK, hf]
  exact congrArg (fun x => w.heap.setIfInBounds r (Obj.map x (n + 1))) hp
/-! ### Keyed by two numbers -/
def pairEnt (ms : List Mg) (j : Nat) : MapEntry := { key := .agg #[.int .i64 (mL ms j), .int .i64 (mR ms j)], val := .agg #[.int .i64 (j : Nat), .int .i64 (mI ms j)], born := j }
def pairsOf (ms : List Mg) (n : Nat) : Array MapEntry := ((List.range' 0 n).map (pairEnt ms)).toArray
theorem pairsOf_push (ms : List Mg) (n : Nat) : (pairsOf ms n).push (pairEnt ms n) = pairsOf ms (n + 1) := by
  unfold pairsOf
  rw [← Array.toList_inj]
  simp [List.range'_concat]
def pairAt (ms : List Mg) (l r : Int) (j : Nat) : Bool := mL ms j == l && mR ms j == r
theorem equal_pair (d : Nat) {K E : TypeId} (hK : P.underlying K = some (.array 2 E)) (hE : P.underlying E = some (.int .i64)) (hs : ∀ w, (Go.sizeOf E).run P w = Result.ok 1 w) (hp : ∀ (a b : Value) (w : World), (part E #[a, b] 0).run P w = Result.ok a w ∧ (part E #[a, b] 1).run P w = Result.ok b w) (a b c e : Int) (w : World) :
    (Op.equalIn (d + 2) K (.agg #[.int .i64 a, .int .i64 b]) (.agg #[.int .i64 c, .int .i64 e])).run P w = Result.ok (a == c && b == e) w := by
  have h0 := run_equalIn_int (P := P) w d E .i64 .i64 a c hE
  have h1 := run_equalIn_int (P := P) w d E .i64 .i64 b e hE
  unfold Op.equalIn
  simp only [Sem.run_bind, run_underlying hK, hs, Result.andThen]
  simp [List.range', hp, h0, h1]
  by_cases e1 : a = c <;> by_cases e2 : b = e <;> simp [e1, e2]
theorem beq_flip (x y : Int) : (x == y) = (y == x) := by rw [Bool.eq_iff_iff]; simp only [beq_iff_eq]; exact eq_comm
theorem findAsking_pairs {K E : TypeId} (hK : P.underlying K = some (.array 2 E)) (hE : P.underlying E = some (.int .i64)) (hs : ∀ w, (Go.sizeOf E).run P w = Result.ok 1 w) (hp : ∀ (a b : Value) (w : World), (part E #[a, b] 0).run P w = Result.ok a w ∧ (part E #[a, b] 1).run P w = Result.ok b w)
    (ms : List Mg) (l r : Int) (w : World) : ∀ n a, (Instr.findAsking K (.agg #[.int .i64 l, .int .i64 r]) ((List.range' a n).map (pairEnt ms)) a).run P w = Result.ok ((firstFrom (pairAt ms l r) n a).map fun j => (j, Value.agg #[.int .i64 (j : Nat), .int .i64 (mI ms j)])) w := by
  intro n
  induction n with
  | zero => intro a; rfl
  | succ n ih =>
    intro a
    rw [List.range'_succ, List.map_cons]
    have he : (Op.equal K (.agg #[.int .i64 l, .int .i64 r]) (.agg #[.int .i64 (mL ms a), .int .i64 (mR ms a)])).run P w = Result.ok (l == mL ms a && r == mR ms a) w := by
      unfold Op.equal Op.maxDepth
      exact equal_pair (P := P) 9998 hK hE hs hp l r (mL ms a) (mR ms a) w
    have hb : (l == mL ms a && r == mR ms a) = pairAt ms l r a := by unfold pairAt; rw [beq_flip l, beq_flip r]
    rw [show Instr.findAsking K (.agg #[.int .i64 l, .int .i64 r]) (pairEnt ms a :: (List.range' (a + 1) n).map (pairEnt ms)) a = (do
      if ← Op.equal K (.agg #[.int .i64 l, .int .i64 r]) (.agg #[.int .i64 (mL ms a), .int .i64 (mR ms a)]) then pure (some (a, (pairEnt ms a).val)) else Instr.findAsking K (.agg #[.int .i64 l, .int .i64 r]) ((List.range' (a + 1) n).map (pairEnt ms)) (a + 1)) from rfl]
    rw [Sem.run_bind, he, hb]
    unfold firstFrom
    cases pairAt ms l r a
    · exact ih (a + 1)
    · rfl
theorem checkKey_pair (b : Bool) {K E : TypeId} (hK : P.underlying K = some (.array 2 E)) (hE : P.underlying E = some (.int .i64)) (hs : ∀ w, (Go.sizeOf E).run P w = Result.ok 1 w) (hp : ∀ (a b : Value) (w : World), (part E #[a, b] 0).run P w = Result.ok a w ∧ (part E #[a, b] 1).run P w = Result.ok b w)
    (l r : Int) (w : World) : (Instr.checkKey b 10000 K (.agg #[.int .i64 l, .int .i64 r])).run P w = Result.ok () w := by
  have c : ∀ x w, (Instr.checkKey b 9999 E (.int .i64 x)).run P w = Result.ok () w := by
    intro x w
    unfold Instr.checkKey
    simp only [Sem.run_bind, run_underlying hE, Result.andThen]
    rfl
  unfold Instr.checkKey
  simp only [Sem.run_bind, run_underlying hK, Result.andThen]
  simp [List.range', hs, hp, c, Sem.run_bind, Result.andThen]
theorem findNow_array (E : TypeId) (k : Value) (ms : List Mg) (n : Nat) (hn : 0 < n) : Instr.findNow (.array 2 E) k (pairsOf ms n).toList 0 = none := by
  obtain ⟨n, rfl⟩ : ∃ m, n = m + 1 := ⟨n - 1, by omega⟩
  unfold pairsOf
  rw [List.range'_succ, List.map_cons]
  simp [Instr.findNow, Instr.sameNow]
theorem findKey_pairs {K E : TypeId} (hK : P.underlying K = some (.array 2 E)) (hE : P.underlying E = some (.int .i64)) (hs : ∀ w, (Go.sizeOf E).run P w = Result.ok 1 w) (hp : ∀ (a b : Value) (w : World), (part E #[a, b] 0).run P w = Result.ok a w ∧ (part E #[a, b] 1).run P w = Result.ok b w)
    (ms : List Mg) (n : Nat) (l r : Int) (w : World) : (Instr.findKey K (.agg #[.int .i64 l, .int .i64 r]) (pairsOf ms n).toList).run P w = Result.ok ((firstOf (pairAt ms l r) n).map fun j => (j, Value.agg #[.int .i64 (j : Nat), .int .i64 (mI ms j)])) w := by
  unfold Instr.findKey
  simp only [Sem.run_bind, run_underlying hK, Result.andThen]
  rcases Nat.eq_zero_or_pos n with rfl | h
  · rfl
  · rw [findNow_array E _ ms n h]
    exact findAsking_pairs hK hE hs hp ms l r w n 0
theorem lookup_pair {T K V E : TypeId} (hT : P.underlying T = some (.map K V)) (hK : P.underlying K = some (.array 2 E)) (hE : P.underlying E = some (.int .i64)) (hs : ∀ w, (Go.sizeOf E).run P w = Result.ok 1 w) (hp : ∀ (a b : Value) (w : World), (part E #[a, b] 0).run P w = Result.ok a w ∧ (part E #[a, b] 1).run P w = Result.ok b w)
    (hz : ∀ w, (zeroValue V).run P w = Result.ok (.agg #[.int .i64 0, .int .i64 0]) w)
    (w : World) (r : Nat) (ms : List Mg) (n : Nat) (x y : Int) (h : w.heap[r]? = some (.map (pairsOf ms n) n)) :
    (Instr.lookup T (.map (some r)) (.agg #[.int .i64 x, .int .i64 y]) true).run P w =
      Result.ok (.tuple #[match firstOf (pairAt ms x y) n with | some j => .agg #[.int .i64 (j : Nat), .int .i64 (mI ms j)] | none => .agg #[.int .i64 0, .int .i64 0], .bool (firstOf (pairAt ms x y) n).isSome]) w := by
  have hf := findKey_pairs hK hE hs hp ms n x y w
  have hc := fun b => checkKey_pair (P := P) b hK hE hs hp x y w
  unfold Instr.lookup
  simp only [Sem.run_bind, run_underlying hT, Result.andThen]
  simp [getObj, Sem.run, h, Result.andThen, hc, hf]
  cases firstOf (pairAt ms x y) n with
  | none => simp [hz]
  | some j => simp
theorem update_pair {T K V E : TypeId} (hT : P.underlying T = some (.map K V)) (hK : P.underlying K = some (.array 2 E)) (hE : P.underlying E = some (.int .i64)) (hs : ∀ w, (Go.sizeOf E).run P w = Result.ok 1 w) (hp : ∀ (a b : Value) (w : World), (part E #[a, b] 0).run P w = Result.ok a w ∧ (part E #[a, b] 1).run P w = Result.ok b w)
    (w : World) (r : Nat) (ms : List Mg) (n : Nat) (h : w.heap[r]? = some (.map (pairsOf ms n) n)) (hn : firstOf (pairAt ms (mL ms n) (mR ms n)) n = none) :
    (Instr.mapUpdate T (.map (some r)) (.agg #[.int .i64 (mL ms n), .int .i64 (mR ms n)]) (.agg #[.int .i64 (n : Nat), .int .i64 (mI ms n)])).run P w = Result.ok () { w with heap := w.heap.setIfInBounds r (.map (pairsOf ms (n + 1)) (n + 1)) } := by
  have hf := findKey_pairs hK hE hs hp ms n (mL ms n) (mR ms n) w
  have hc := fun b => checkKey_pair (P := P) b hK hE hs hp (mL ms n) (mR ms n) w
  rw [hn] at hf
  have hpp := pairsOf_push ms n
  unfold Instr.mapUpdate
  simp only [Sem.run_bind, run_underlying hT, Result.andThen]
  simp [getObj, setObj, Sem.run, h, Result.andThen, hc, hf]
  exact congrArg (fun x => w.heap.setIfInBounds r (Obj.map x (n + 1))) hpp
end
end Tess
