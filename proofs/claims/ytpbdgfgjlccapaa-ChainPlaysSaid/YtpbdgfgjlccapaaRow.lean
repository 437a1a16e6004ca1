/-
  append of a slice that reads as a list of numbers; a new literal as a row of the call's own. For whatever program.
-/
import Derived.Test.YtpbdgfgjlccapaaLst
namespace Go.Proofs.Ytpbdgfgjlccapaa.ba
open Go.RowKit
set_option maxRecDepth 8000
set_option linter.unusedVariables false

theorem listOf_list (x : List Int) : listOf (fun i => x.getD i 0) x.length = x := by
  apply List.ext_getElem
  · simp [listOf]
  · intro i h1 h2
    simp [listOf, h2]

theorem wpList_append_lst {P : Program} {w : World} {ops : Array Oper} {rest : List Oper} {o : Oper} {ac : Act} {Q : Exit → Act → World → Prop} (hgd : o.guard = none) (s x : Operand) (t : TypeId)
    (ho : o.op = .call { callee := .builtin .append, args := #[s, x], argTypes := #[t, t] })
    (base : Nat) (e : TypeId) (k : IntKind) (i : TypeInfo) (z : Value) (bytes : Nat) (ht : P.underlying t = some (.slice e)) (hi : P.info? e = some i) (hz : i.zero = some z)
    (hsize : i.size = 1) (hby : i.bytes = bytes) (hzs : z.cells.size = 1) (v : Value) (n : Nat) (l : List Int) (hs : ac.eval s = v) (hown : w.ownsRow base e 1 v n (l.map (Value.int k)))
    (a : Option Addr) (m c : Nat) (y : List Int) (hx : ac.eval x = .slice a m c) (hm : y.length = m) (hL : Lst k w a y) (h63 : n + m ≤ 1073741824) (hbytes : bytes ≤ 1024) (hbase : base ≤ w.heap.size)
    (h : ∀ v' w', w'.ownsRow base e 1 v' (n + m) ((l ++ y).map (Value.int k)) → w.grownBy w' v.ownBlock → wpList P ops Q rest (ac.put o.dst v') w') :
    wpList P ops Q (o :: rest) ac w := by
  subst hm
  refine wpList_append_ints hgd s x t ho base e k i z bytes ht hi hz hsize hby hzs v n l hs hown a y.length c _ hx hL.ints h63 hbytes hbase fun v' w' h1 h2 => ?_
  rw [listOf_list] at h1
  exact h v' w' h1 h2

/-- A literal of numbers in new memory. -/
theorem own_new (w : World) (base : Nat) (e : TypeId) (l : List Value) (n : Nat) (hn : l.length = n) (hb : base ≤ w.heap.size) (hm : n ≤ maxLen) : (w.alloc (.cells l.toArray e)).ownsRow base e 1 (.slice (some ⟨w.heap.size, 0, none⟩) n n) n l :=
  ⟨by omega, .inr ⟨w.heap.size, n, l.toArray, rfl, hb, heap_alloc_new w _, Nat.le_refl _, hm, by simp [hn], by subst hn; simp⟩⟩
end Go.Proofs.Ytpbdgfgjlccapaa.ba
