/- Contracts of model's Size, Word, pairs. -/
import Derived.Test.YtpfnmcgcpgcfjaaDoorMWords
import Derived.Test.YtpfnmcgcpgcfjaaDoorRef5b
namespace Tess
open Go Go.RowKit
/-- Has one of the first i merges the id 256 + j? -/
def mkN (ms : List Mg) (i j : Nat) : Bool := (firstOf (fun k => mI ms k == ((256 + j : Nat) : Int)) i).isSome
theorem madeB_mk {ms : List Mg} {i : Nat} {id : Int} (h : ¬ (0 ≤ id ∧ id < 256)) : madeB ms i id = (decide (256 ≤ id) && mkN ms i (id - 256).toNat) := by
  unfold madeB mkN
  have h1 : (decide (0 ≤ id) && decide (id < 256)) = false := by simp; omega
  rw [h1, Bool.false_or]
  by_cases h2 : 256 ≤ id
  · rw [show ((256 + (id - 256).toNat : Nat) : Int) = id by omega]
  · simp [h2]
theorem madeB_ge {ms : List Mg} {i n : Nat} {id : Int} (h : ∀ k, k < i → 256 ≤ mI ms k ∧ mI ms k - 256 < n) (hid : (n : Int) ≤ id - 256) : madeB ms i id = false := by
  unfold madeB
  rw [firstOf_none fun j hj => by have := h j hj; simp; omega]
  simp; omega
theorem madeB_neg {ms : List Mg} {i : Nat} {id : Int} (hid : id < 0) : madeB ms i id = false := by
  unfold madeB
  simp; omega
theorem firstOf_succ_isSome (p : Nat → Bool) (n : Nat) : (firstOf p (n + 1)).isSome = ((firstOf p n).isSome || p n) := by
  cases h : firstOf p n with
  | some k =>
    obtain ⟨a, b, c⟩ := firstOf_inv h
    rw [firstOf_some (show k < n + 1 by omega) b c]; rfl
  | none =>
    have hn := firstOf_inv_none h
    cases hp : p n
    · rw [firstOf_none fun j hj => by
        by_cases e : j = n
        · subst e; exact hp
        · exact hn j (by omega)]
      rfl
    · rw [firstOf_some (show n < n + 1 by omega) hp hn]; rfl
theorem mkN_succ (ms : List Mg) (i j : Nat) (h : 256 ≤ mI ms i) : mkN ms (i + 1) j = if j = (mI ms i - 256).toNat then true else mkN ms i j := by
  unfold mkN
  rw [firstOf_succ_isSome]
  by_cases e : j = (mI ms i - 256).toNat
  · rw [if_pos e, show (mI ms i == ((256 + j : Nat) : Int)) = true by simp; omega]; simp
  · rw [if_neg e, show (mI ms i == ((256 + j : Nat) : Int)) = false by simp; omega]; simp
theorem madeB_part {ms : List Mg} {i n : Nat} {id : Int} (h : ∀ k, k < i → 256 ≤ mI ms k ∧ mI ms k - 256 < (n : Int)) : ((decide (0 ≤ id) && decide (id < 256)) || (decide (256 ≤ id) && (decide (id - 256 < (n : Int)) && mkN ms i (id - 256).toNat))) = madeB ms i id := by
  by_cases h0 : 0 ≤ id ∧ id < 256
  · rw [Go.Proofs.YtpfnmcgcpgcfjaaDoor.madeB_small h0.1 h0.2]; simp [h0.1, h0.2]
  · rw [show (decide (0 ≤ id) && decide (id < 256)) = false by simp; omega, Bool.false_or]
    by_cases h1 : 256 ≤ id
    · by_cases h2 : (n : Int) ≤ id - 256
      · rw [madeB_ge h h2, decide_eq_false (show ¬ id - 256 < (n : Int) by omega)]; simp
      · rw [madeB_mk h0, decide_eq_true h1, decide_eq_true (show id - 256 < (n : Int) by omega)]; simp
    · rw [madeB_neg (by omega), decide_eq_false h1]; simp
end Tess
namespace Go.Proofs.YtpfnmcgcpgcfjaaDoor
open Go.RowKit Tess
set_option maxHeartbeats 1000000 in
theorem model_Size (w : World) (g : Nat) (A : Option Addr) (n c : Nat) (h : w.cell? ⟨g, 0, none⟩ = some (.slice A n c)) (hn : n ≤ 8796093022208) :
   Calls Tryd.prog 77 #[.pointer (some ⟨g, 0, none⟩)] w fun e w' => e = .returned (.int .i64 (256 + (n : Int))) ∧ w = w' := by
  go_enter Tryd.func77, Tryd.ntmps77
  go_wp2
  go_ret
  exact ⟨rfl, rfl⟩
set_option maxHeartbeats 2000000 in
set_option maxRecDepth 100000 in
theorem model_Word (w : World) (g : Nat) (vw : Value) (ws : List ByteArray) (id : Int) (hc : w.cell? ⟨g, 0, none⟩ = some vw) (hW : StrsIn w vw ws) (hid : -9223372036854775808 ≤ id ∧ id ≤ 9223372036854775807) :
   Calls Tryd.prog 44 #[.pointer (some ⟨g, 0, none⟩), .int .i64 id] w fun e w' => e = .returned (.tuple #[.string (wordD ws id), .bool (wordOf ws id).isSome]) ∧ Below w.heap.size w w' := by
  obtain ⟨A, c, rfl⟩ := hW.form
  have hlen := hW.1
  have HW := Lib.hid hW
  obtain ⟨hid1, hid2⟩ := hid
  clear hW
  have S := model_Size w g A ws.length c hc hlen
  have HS := Lib.hid S
  clear S
  unfold wordD
  by_cases h0 : 0 ≤ id
  · by_cases h1 : id - 256 < ws.length
    · by_cases h2 : id < 256
      · rw [wordOf_small h0 h2]
        have hcv := conv_byte (w.alloc (Obj.cells #[.int .u8 id] 5)) w.heap.size id (by go_simp)
        go_enter Tryd.func44, Tryd.ntmps44
        go_wp2_with (go_at_call 77; refine HS.out.mono ?_; rintro e w' ⟨rfl, rfl⟩)
        go_ret2
        exact ⟨rfl, by (repeat (first | with_reducible exact Below.refl _ _ | assumption | refine Below.drew ?_ | refine below_drewN ?_ _ | refine Below.alloc ?_ (by first | omega | (simp; done) | (simp; omega)) _ | refine Below.setCell ?_ (by first | omega | (simp; done) | (simp; omega)) _))⟩
      · rw [wordOf_great (by omega) h1]
        obtain ⟨b, off, rfl, hcc⟩ := HW.out.at_ (id - 256).toNat (by omega)
        have h3 : 256 ≤ id := by omega
        generalize wAt ws (id - 256).toNat = x at hcc ⊢
        go_enter Tryd.func44, Tryd.ntmps44
        go_wp2_with (go_at_call 77; refine HS.out.mono ?_; rintro e w' ⟨rfl, rfl⟩)
        go_ret2
        exact ⟨rfl, by (repeat (first | with_reducible exact Below.refl _ _ | assumption | refine Below.drew ?_ | refine below_drewN ?_ _ | refine Below.alloc ?_ (by first | omega | (simp; done) | (simp; omega)) _ | refine Below.setCell ?_ (by first | omega | (simp; done) | (simp; omega)) _))⟩
    · rw [wordOf_none (by omega)]
      go_enter Tryd.func44, Tryd.ntmps44
      go_wp2_with (go_at_call 77; refine HS.out.mono ?_; rintro e w' ⟨rfl, rfl⟩)
      go_ret2
      exact ⟨rfl, by (repeat (first | with_reducible exact Below.refl _ _ | assumption | refine Below.drew ?_ | refine below_drewN ?_ _ | refine Below.alloc ?_ (by first | omega | (simp; done) | (simp; omega)) _ | refine Below.setCell ?_ (by first | omega | (simp; done) | (simp; omega)) _))⟩
  · rw [wordOf_none (by omega)]
    go_enter Tryd.func44, Tryd.ntmps44
    go_wp2
    go_ret2
    exact ⟨rfl, by (repeat (first | with_reducible exact Below.refl _ _ | assumption | refine Below.drew ?_ | refine below_drewN ?_ _ | refine Below.alloc ?_ (by first | omega | (simp; done) | (simp; omega)) _ | refine Below.setCell ?_ (by first | omega | (simp; done) | (simp; omega)) _))⟩
/-- The marks of what is made: n bools from block m on. -/
def Marks (W : World) (m n : Nat) (f : Nat → Bool) : Prop := ∃ cs, W.heap[m]? = some (.cells cs 4 (0, 0)) ∧ cs.size = n ∧ ∀ j, j < n → cs[j]? = some (.bool (f j))
theorem Marks.below {W W' : World} {m n : Nat} {f : Nat → Bool} (h : Marks W m n f) (hb : Below W.heap.size W W') : Marks W' m n f := by
  obtain ⟨cs, h1, h2, h3⟩ := h
  exact ⟨cs, blk_below h1 hb, h2, h3⟩
theorem Marks.cell {W : World} {m n : Nat} {f : Nat → Bool} (h : Marks W m n f) (j : Nat) (hj : j < n) : W.cell? ⟨m, j, none⟩ = some (.bool (f j)) := by
  obtain ⟨cs, h1, h2, h3⟩ := h
  rw [blk_cell h1, h3 j hj]
theorem Marks.free {W : World} {m n : Nat} {f : Nat → Bool} (h : Marks W m n f) (j : Nat) : W.frozen? ⟨m, j, none⟩ = false := by
  obtain ⟨cs, h1, h2, h3⟩ := h
  exact blk_free h1 j
theorem Marks.set {W : World} {m n : Nat} {f : Nat → Bool} (h : Marks W m n f) (j : Nat) : Marks (W.setCell ⟨m, j, none⟩ (.bool true)) m n (fun k => if k = j then true else f k) := by
  obtain ⟨cs, h1, h2, h3⟩ := h
  refine ⟨_, blk_set h1 j _, by simp [h2], fun k hk => ?_⟩
  rw [Array.getElem?_setIfInBounds]
  by_cases e : k = j
  · subst e; simp [h2, hk]
  · rw [if_neg (fun h => e h.symm), h3 k hk]; simp [e]
set_option maxHeartbeats 2000000 in
set_option maxRecDepth 100000 in
theorem pairs_part (w : World) (g m p q : Nat) (A : Option Addr) (n c : Nat) (f : Nat → Bool) (id : Int) (hid : -9223372036854775808 ≤ id ∧ id ≤ 9223372036854775807) (hn : n ≤ 8796093022208)
    (h0 : w.cell? ⟨g, 0, none⟩ = some (.slice A n c)) (hp : w.cell? ⟨p, 0, none⟩ = some (.pointer (some ⟨g, 0, none⟩))) (hq : w.cell? ⟨q, 0, none⟩ = some (.slice (some ⟨m, 0, none⟩) n n)) (hm : Marks w m n f) :
   Calls Tryd.prog 110 #[.int .i64 id, .pointer (some ⟨p, 0, none⟩), .pointer (some ⟨q, 0, none⟩)] w fun e w' => e = .returned (.bool ((decide (0 ≤ id) && decide (id < 256)) || (decide (256 ≤ id) && (decide (id - 256 < n) && f (id - 256).toNat)))) ∧ w = w' := by
  obtain ⟨hid1, hid2⟩ := hid
  have S := model_Size w g A n c h0 hn
  have HS := Lib.hid S
  have HM := Lib.hid hm
  clear S hm
  by_cases k0 : 0 ≤ id
  · by_cases k1 : id < 256
    · rw [decide_eq_true k0, decide_eq_true k1]
      go_enter Tryd.func110, Tryd.ntmps110
      go_wp2
      go_ret
      exact ⟨rfl, rfl⟩
    · have k2 : 256 ≤ id := by omega
      by_cases k3 : id - 256 < n
      · rw [decide_eq_true k0, decide_eq_false k1, decide_eq_true k2, decide_eq_true k3]
        have hc := HM.out.cell (id - 256).toNat (by omega)
        generalize f (id - 256).toNat = x at hc ⊢
        have k4 : id < 256 + (n : Int) := by omega
        go_enter Tryd.func110, Tryd.ntmps110
        go_wp2_with (go_at_call 77; refine HS.out.mono ?_; rintro e w' ⟨rfl, rfl⟩)
        go_ret
        exact ⟨rfl, rfl⟩
      · rw [decide_eq_true k0, decide_eq_false k1, decide_eq_true k2, decide_eq_false k3]
        have k4 : ¬ id < 256 + (n : Int) := by omega
        go_enter Tryd.func110, Tryd.ntmps110
        go_wp2_with (go_at_call 77; refine HS.out.mono ?_; rintro e w' ⟨rfl, rfl⟩)
        go_ret
        exact ⟨rfl, rfl⟩
  · have k2 : ¬ 256 ≤ id := by omega
    rw [decide_eq_false k0, decide_eq_false k2]
    go_enter Tryd.func110, Tryd.ntmps110
    go_wp2
    go_ret
    exact ⟨rfl, rfl⟩
end Go.Proofs.YtpfnmcgcpgcfjaaDoor
