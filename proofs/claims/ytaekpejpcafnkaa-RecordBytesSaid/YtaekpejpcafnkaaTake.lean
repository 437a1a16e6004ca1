/-
  A region that draws its order, taken operation by operation, by hand: for regions some of whose operations do not run (a false guard). For whatever program.
-/
import Derived.Test.YtaekpejpcafnkaaMa
import Derived.Deep.RegionHeld3
namespace Go.Proofs.Ytaekpejpcafnkaa.ba
open Go.RowKit
set_option maxRecDepth 8000

section
variable {P : Program} {ops : Array Oper} {Q : Exit → Act → World → Prop} {md : Region.Mode} {S : World → Prop}
theorem at_of_drop {i : Nat} {oi : Oper} {tl : List Oper} (h : ops.toList.drop i = oi :: tl) : ops[i]? = some oi := by
  have h1 : (ops.toList.drop i)[0]? = some oi := by rw [h]; rfl
  rw [List.getElem?_drop, Nat.add_zero] at h1
  rw [← Array.getElem?_toList]
  exact h1
/-- It runs, and yields in every world that meets S. -/
theorem take_p (i : Nat) {oi : Oper} {tl : List Oper} {v : Value} {fuel : Nat} {listed : Array Bool} {a : Act} {w : World} (hi : ops.toList.drop i = oi :: tl)
    (hs : Region.noSelect ops = true) (hf : Region.free md ops listed i = true) (hr : (Region.ready md ops listed).contains i = true)
    (hQ : ∀ c a w, Q (.panic c) (a.put oi.dst v) w → Q (.panic c) a w) (hw : Region.wanted oi (yielded ops a.tmps) = true) (hS : S w)
    (hy : ∀ w, S w → (execOp a.eval oi).run P w = .ok (.value v) w)
    (h : wpAnyH P md ops Q S fuel (listed.setIfInBounds i true) (a.put oi.dst v) w) : wpAnyH P md ops Q S (fuel + 1) listed a w :=
  wpAnyH_take (at_of_drop hi) hs hf hr hQ (.inl ⟨hw, hy⟩) hS h
/-- It does not run. -/
theorem take_u (i : Nat) {oi : Oper} {tl : List Oper} {fuel : Nat} {listed : Array Bool} {a : Act} {w : World} (hi : ops.toList.drop i = oi :: tl)
    (hs : Region.noSelect ops = true) (hf : Region.free md ops listed i = true) (hr : (Region.ready md ops listed).contains i = true)
    (hQ : ∀ c a w, Q (.panic c) (a.put oi.dst undef) w → Q (.panic c) a w) (hw : Region.wanted oi (yielded ops a.tmps) = false) (hS : S w)
    (h : wpAnyH P md ops Q S fuel (listed.setIfInBounds i true) (a.put oi.dst undef) w) : wpAnyH P md ops Q S (fuel + 1) listed a w :=
  wpAnyH_take (at_of_drop hi) hs hf hr hQ (.inr ⟨hw, rfl⟩) hS h
/-- It alone may come up. -/
theorem take_c (i : Nat) {o : Oper} {tl : List Oper} {fuel : Nat} {listed : Array Bool} {a : Act} {w : World} (hr : Region.ready md ops listed = [i]) (ho : ops.toList.drop i = o :: tl)
    (h : ∀ K' : Act → World → Prop, Shut (∀ a w, S w → (S w → wpAnyH P md ops Q S fuel (listed.setIfInBounds i true) a w) → K' a w) → if Region.wanted o (yielded ops a.tmps) = true then Oper.wp P o a w K' Q else K' (a.put o.dst undef) w) :
    wpAnyH P md ops Q S (fuel + 1) listed a w := wpAnyH_ready hr (by simp) (AllReadyH.cons (at_of_drop ho) h AllReadyH.nil)
/-- One of two comes up. -/
theorem take_two (i j : Nat) {o o' : Oper} {tl tl' : List Oper} {fuel : Nat} {listed : Array Bool} {a : Act} {w : World} (hr : Region.ready md ops listed = [i, j]) (ho : ops.toList.drop i = o :: tl) (ho' : ops.toList.drop j = o' :: tl')
    (h : ∀ K' : Act → World → Prop, Shut (∀ a w, S w → (S w → wpAnyH P md ops Q S fuel (listed.setIfInBounds i true) a w) → K' a w) → if Region.wanted o (yielded ops a.tmps) = true then Oper.wp P o a w K' Q else K' (a.put o.dst undef) w)
    (h' : ∀ K' : Act → World → Prop, Shut (∀ a w, S w → (S w → wpAnyH P md ops Q S fuel (listed.setIfInBounds j true) a w) → K' a w) → if Region.wanted o' (yielded ops a.tmps) = true then Oper.wp P o' a w K' Q else K' (a.put o'.dst undef) w) :
    wpAnyH P md ops Q S (fuel + 1) listed a w := wpAnyH_ready hr (by simp) (AllReadyH.cons (at_of_drop ho) h (AllReadyH.cons (at_of_drop ho') h' AllReadyH.nil))
end
end Go.Proofs.Ytaekpejpcafnkaa.ba
