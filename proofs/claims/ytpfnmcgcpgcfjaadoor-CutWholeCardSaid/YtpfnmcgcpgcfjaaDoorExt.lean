/- Regions that draw their order, whose operations read and whose calls make memory but turn none that was there: one walk of the text's order serves every order, inside a round of a loop, too. Over any program. -/
import Derived.Test.YtpfnmcgcpgcfjaaDoorWords
import Derived.Sort.QuietIn
import Derived.RangeFuncCalls
import Derived.TacticsIn
namespace Tess
open Go Go.RowKit
/-- A world that lies over another: whatever was there is as it was. -/
structure Ext (W : World) where
  w : World
  h : Below W.heap.size W w
instance (W : World) : Nonempty (Ext W) := ⟨⟨W, Below.refl _ _⟩⟩
theorem Ext.cell {W : World} {p : Addr} {v : Value} (h : W.cell? p = some v) : ∀ e : Ext W, e.w.cell? p = some v := fun e => cell_below e.h h
theorem Ext.frozen {W : World} {p : Addr} (h : p.block < W.heap.size) (hf : W.frozen? p = false) : ∀ e : Ext W, e.w.frozen? p = false := fun e => (e.h.frozen (p := p) h).trans hf
abbrev ExtC (W : World) (w' : World) : Prop := ∃ e : Ext W, w' = e.w
theorem ExtC.drew (W : World) : ExtC W { W with drawn := W.drawn + 1 } := ⟨⟨W.drew, Below.drew (Below.refl _ _)⟩, rfl⟩
theorem wide_fn (f : Nat) : Fence.wide.fn f = True := eq_true trivial
theorem ext_call {W : World} {e : Ext W} {k : Nat} {P : Program} {f : FuncId} {args : Array Value} {v : Value} (h : Calls P f args e.w fun e' w' => e' = .returned v ∧ Below e.w.heap.size e.w w') : CallsIn Fence.wide k P f args e.w (fun e' w'' => e' = .returned v ∧ ∃ e2 : Ext W, w'' = e2.w) :=
  callsIn_wide.2 (h.mono fun _ w' ⟨h1, h2⟩ => ⟨h1, ⟨w', e.h.trans (h2.mono e.h.size)⟩, rfl⟩)
section
variable {F : Fence} {n : Nat} {P : Program} {ops : Array Oper} {md : Region.Mode} {C : World → Prop}
/-- No operation is put off. -/
def noDefer (o : Oper) : Bool := match o.op with | .defer _ => false | _ => true
theorem noDefer_spec {o : Oper} (h : noDefer o = true) : ∀ c, o.op ≠ .defer c := by
  intro c e
  unfold noDefer at h
  rw [e] at h
  cases h
theorem semAt_noDefer {r : Option Nat} {ρ : Operand → Value} {o : Oper} (h : noDefer o = true) : Oper.semAt r ρ o = execOp ρ o := Oper.semAt_eq r ρ o (noDefer_spec h)
/-- A fence that hinders no call: the wide one, and a round's within it. -/
structure Wideish (F : Fence) (P : Program) : Prop where
  fn : ∀ f, F.fn f
  depth : F.depth = none
  calls : ∀ {k : Nat} {f : FuncId} {args : Array Value} {w : World} {R : Ending → World → Prop}, CallsIn Fence.wide k P f args w R → CallsIn F k P f args w R
theorem wideish_wide (P : Program) : Wideish Fence.wide P := ⟨fun _ => trivial, rfl, id⟩
theorem wideish_round (P : Program) (l : Nat) : Wideish (Fence.wide.inRound l) P := ⟨fun _ => trivial, rfl, fun h => CallsIn.inRound l h⟩
theorem wpIn_of_quietW {o : Oper} {a : Act} {K : Act → Prop} {K' : Act → World → Prop} {Q' : Exit → Act → World → Prop} {w : World} (hF : Wideish F P) (hd : noDefer o = true) (hw : C w) (h : ∀ a w', C w' → K a → K' a w')
    (hh : o.quietIn Fence.wide n P a C K) : o.wpIn F n P a w K' Q' := by
  obtain ⟨v, h1, h2⟩ := hh
  have h3 := h1 w hw
  unfold Oper.quietAtIn at h3
  unfold Oper.wpIn
  refine ⟨fun f _ => hF.fn f, ?_⟩
  rw [semAt_noDefer hd]
  generalize (execOp a.eval o).run P w = r at *
  cases r with
  | ok x w' =>
    cases x <;> simp only [Oper.quietUponIn] at h3 <;> simp only [Oper.uponIn]
    case value u =>
      obtain ⟨e1, e2⟩ := h3
      rw [e1, e2]
      exact h _ _ hw h2
    case skip =>
      obtain ⟨e1, e2⟩ := h3
      rw [e1, ← e2]
      exact h _ _ hw h2
    case enter f args =>
      obtain ⟨e1, _, hc⟩ := h3
      rw [e1]
      refine ⟨(fun e => by rw [hF.depth] at e; cases e), (hF.calls hc).mono fun e w'' ⟨he, hw''⟩ => ?_⟩
      subst he
      exact h _ _ hw'' h2
  | halt x w' => simp only [Oper.quietUponIn] at h3
theorem wpOpIn_of_quietW {i : Nat} {a : Act} {K : Act → Prop} {K' : Act → World → Prop} {Q' : Exit → Act → World → Prop} {w : World} (hF : Wideish F P) (hd : ∀ o ∈ ops.toList, noDefer o = true) (hC : C w) (h : ∀ a w', C w' → K a → K' a w')
    (hh : qOpIn Fence.wide n P ops C i K a) : wpOpIn F n P ops Q' i K' a w := by
  unfold qOpIn at hh
  unfold wpOpIn
  split
  · rename_i ho; simp only [ho] at hh; exact h _ _ hC hh
  · rename_i o ho
    simp only [ho] at hh
    have hdo : noDefer o = true := hd o (by
      obtain ⟨h1, h2⟩ := Array.getElem?_eq_some_iff.1 ho
      exact Array.mem_toList_iff.2 (h2 ▸ Array.getElem_mem h1))
    obtain ⟨_, hh⟩ := hh
    split
    · rename_i hw; simp only [hw, if_true] at hh; exact wpIn_of_quietW hF hdo hC h hh
    · rename_i hw; simp only [hw] at hh; exact ⟨fun f _ => hF.fn f, h _ _ hC hh⟩
theorem wpAnyIn_of_quietW {Q : Act → Prop} {Q' : Exit → Act → World → Prop} (hF : Wideish F P) (hd : ∀ o ∈ ops.toList, noDefer o = true) (hQ : ∀ a w, C w → Q a → Q' .normal a w) : ∀ (fuel : Nat) (listed : Array Bool) (a : Act) (w : World), C w →
    wpAnyQIn Fence.wide n P md ops C Q fuel listed a → wpAnyIn F n P md ops Q' fuel listed a w
  | 0, _, _, _, hw, h => ⟨h.1, hQ _ _ hw h.2⟩
  | fuel + 1, _, _, _, hw, h => ⟨fun h0 => hQ _ _ hw (h.1 h0), fun i hi => wpOpIn_of_quietW hF hd hw (fun a' w' hw' => wpAnyIn_of_quietW hF hd hQ fuel _ a' w' hw') (h.2 i hi)⟩
theorem region_ext {id : Nat} {Q : Exit → Act → World → Prop} {a : Act} {w : World} {l : List Oper} (hF : Wideish F P) (hm : P.follows .mixedOrders = true) (hB : Region.lexB .any l.toArray = true) (hd : l.all noDefer = true)
    (h : wpQuietIn Fence.wide n P l.toArray (ExtC w) (fun a' => ∀ w', ExtC w w' → Q .normal a' w') l a) : (Code.region id l.toArray true).wpIn F n P Q a w := by
  simp only [Region.lexB, Bool.and_eq_true] at hB
  refine wpIn_region_any hm (wpAnyIn_of_quietW (Q := fun a' => ∀ w', ExtC w w' → Q .normal a' w') hF (fun o ho => List.all_eq_true.1 hd o (by simpa using ho)) (fun _ w' hw' h => h w' hw') _ _ _ _ (ExtC.drew w) ?_)
  have := wpAnyQIn_lex (F := Fence.wide) (n := n) (C := ExtC w) (md := .any) hB.1 l 0 (Array.replicate l.toArray.size false) a (by simp) (by simpa using hB.2) h
  simpa using this
/-- The same outside a fence. -/
theorem region_ext_wp {id : Nat} {Q : Exit → Act → World → Prop} {a : Act} {w : World} {l : List Oper} (hm : P.follows .mixedOrders = true) (hB : Region.lexB .any l.toArray = true) (hd : l.all noDefer = true)
    (h : wpQuietIn Fence.wide 9 P l.toArray (ExtC w) (fun a' => ∀ w', ExtC w w' → Q .normal a' w') l a) : (Code.region id l.toArray true).wp P Q a w :=
  (wpIn_wide (n := 9)).1 (region_ext (wideish_wide P) hm hB hd h)
end
end Tess
