/-
  Layer 21: what the search's memory holds.
-/
import Derived.Test.YtnjipfnajgcibaaLifeC
import Derived.Test.YtnjipfnajgcibaaLifeD
import Derived.Test.YtnjipfnajgcibaaOwn
import Derived.Maps.OwnOps
import Derived.Maps.OwnSet
import Derived.Maps.Views
namespace Go.Proofs.Ytnjipfnajgcibaa.lw
open Go.RowKit Go.Proofs.Ytnjipfnajgcibaa.ba Go.Proofs.Ytnjipfnajgcibaa.lp
open Go.Maps (Keyed IsMap atKey_put_same atKey_put_other)
set_option linter.unusedVariables false

theorem keyLaw : Keyed Try.prog 3 := Maps.int_keyed Try.underlying3
theorem zeroBool (w : World) : (zeroValue 4).run Try.prog w = .ok (.bool false) w := by kernel_rfl

/-- A map of the call's own that holds 'true' at the numbers that were met. -/
def Met (w : World) (b n : Nat) (met : List Int) : Prop :=
  ∃ D : DataW Unit, w.ownsMap Try.prog 3 (plainElem Try.prog 4) b n D ∧ ∀ k : Int, 0 ≤ k → k ≤ 5 → D.atKey (.int .i64 k) (.lit (.bool false)) = .lit (.bool (decide (k ∈ met)))

theorem key_small (k : Int) (h0 : 0 ≤ k) (h5 : k ≤ 5) : keyOf Try.prog 3 (.int .i64 k) = some (.int .i64 k) := Maps.keyOf_int_mk Try.underlying3 (WalkArith.wf_i64 (by omega))

theorem plain_bool_inv {v : Value} {z : DataW Unit × List MemPlace} (h : plainElem Try.prog 4 v = some z) : ∃ b, v = .bool b ∧ z = (.lit (.bool b), []) := by
  unfold plainElem at h
  rw [Try.underlying4] at h
  cases v <;> simp at h
  exact ⟨_, rfl, h.symm⟩

theorem Met.lt {w : World} {b n : Nat} {met : List Int} (h : Met w b n met) : ∃ es c, w.heap[b]? = some (.map es c) := by
  obtain ⟨D, ⟨es, clock, hb, _⟩, _⟩ := h
  exact ⟨es, clock, hb⟩

theorem Met.kept {w w' : World} {b n : Nat} {met : List Int} {row : Option Nat} (h : Met w b n met) (hg : w.grownBy w' row) (hne : some b ≠ row) : Met w' b n met := by
  obtain ⟨D, h1, h2⟩ := h
  exact ⟨D, h1.kept hg hne, h2⟩

theorem run_look {w : World} {b n : Nat} {met : List Int} (h : Met w b n met) (k : Int) (h0 : 0 ≤ k) (h5 : k ≤ 5) :
    (Instr.lookup 49 (.map (some b)) (.int .i64 k) false).run Try.prog w = .ok (.bool (decide (k ∈ met))) w := by
  obtain ⟨D, hown, hat⟩ := h
  obtain ⟨v, ps, hrun, hR⟩ := hown.lookup keyLaw Try.underlying49 (zeroBool w) (plainElem_bool Try.underlying4 false) (key_small k h0 h5)
  rw [hat k h0 h5] at hR
  obtain ⟨c, rfl, hz⟩ := plain_bool_inv hR
  simp only [Prod.mk.injEq, DataW.lit.injEq, Lit.bool.injEq] at hz
  rw [hrun, hz.1]

theorem run_put {w : World} {b n : Nat} {met : List Int} (h : Met w b n met) (k : Int) (h0 : 0 ≤ k) (h5 : k ≤ 5) (hn : n < 1000) :
    ∃ w', (Instr.mapUpdate 49 (.map (some b)) (.int .i64 k) (.bool true)).run Try.prog w = .ok () w' ∧ Met w' b (n + 1) (k :: met) ∧ w.grownBy w' (some b) := by
  obtain ⟨D, hown, hat⟩ := h
  obtain ⟨w', hrun, h1, h2⟩ := hown.update keyLaw Try.underlying49 (by unfold maxLen; omega) (key_small k h0 h5) (plainElem_bool Try.underlying4 true)
  refine ⟨w', hrun, ⟨_, h1, fun j j0 j5 => ?_⟩, h2⟩
  by_cases hj : j = k
  · subst hj
    rw [atKey_put_same (k := Lit.int .i64 j) hown.isMap trivial]
    simp
  · rw [atKey_put_other (by simpa using hj), hat j j0 j5]
    simp [hj]

theorem wpList_put {w : World} {ops : Array Oper} {rest : List Oper} {o : Oper} {a : Act} {Q : Exit → Act → World → Prop}
    (hg : o.guard = none) (m x v : Operand) (hop : o.op = Op.mapUpdate 49 m x v) (b n : Nat) (met : List Int) (hm : a.eval m = .map (some b)) (h : Met w b n met)
    (k : Int) (hx : a.eval x = .int .i64 k) (hv : a.eval v = .bool true) (h0 : 0 ≤ k) (h5 : k ≤ 5) (hn : n < 1000)
    (hK : ∀ w', Met w' b (n + 1) (k :: met) → w.grownBy w' (some b) → wpList Try.prog ops Q rest (a.put o.dst undef) w') : wpList Try.prog ops Q (o :: rest) a w := by
  refine wpList_plain hg fun K' hK' => ?_
  obtain ⟨w', hrun, r1, r2⟩ := run_put h k h0 h5 hn
  unfold Oper.wp
  simp [execOp, hop, hm, hx, hv, hrun, Result.andThen]
  exact hK' _ _ (hK w' r1 r2)

/-- The rows that wait, as cells: a state, and the slice that holds the events. -/
abbrev RowL := List (Int × Value × List Int)
def rowCells (rows : RowL) : List Value := rows.flatMap fun r => [.int .i64 r.1, r.2.1]
def rowsOf (rows : RowL) : List (Int × List Int) := rows.map fun r => (r.1, r.2.2)
/-- A path in memory. -/
def Held (w : World) (B : Nat) (pv : Value) (p : List Int) : Prop := w.ownsRow B 3 1 pv p.length (p.map (Value.int .i64))

structure Rep (B Bm Bw Mb : Nat) (w : World) (st : List Int × List (Int × List Int)) (wv : Value) (rows : RowL) : Prop where
  m : w.heap[Bm]? = some (.cells #[.map (some Mb)] 49 (0, 0))
  met : Met w Mb st.1.length st.1
  v : w.heap[Bw]? = some (.cells #[wv] 52 (0, 0))
  own : ownsAt w B 51 2 wv rows.length (rowCells rows)
  same : rowsOf rows = st.2
  held : ∀ r ∈ rows, Held w B r.2.1 r.2.2

theorem Held.kept {w w' : World} {B : Nat} {pv : Value} {p : List Int} {row : Option Nat} (h : Held w B pv p) (hg : w.grownBy w' row) (hne : pv.ownBlock = none ∨ pv.ownBlock ≠ row) : Held w' B pv p := World.ownsRow.kept h hg hne

/-- Nothing that was there has turned. -/
theorem Rep.kept {B Bm Bw Mb : Nat} {w w' : World} {st : List Int × List (Int × List Int)} {wv : Value} {rows : RowL} (h : Rep B Bm Bw Mb w st wv rows) (hg : w.grownBy w' none) : Rep B Bm Bw Mb w' st wv rows where
  m := by rw [hg.block Bm (lt_of_block h.m) (by simp)]; exact h.m
  met := h.met.kept hg (by simp)
  v := by rw [hg.block Bw (lt_of_block h.v) (by simp)]; exact h.v
  own := h.own.kept hg (by cases wv.ownBlock <;> simp)
  same := h.same
  held := fun r hr => (h.held r hr).kept hg (by cases r.2.1.ownBlock <;> simp)

theorem grown_below {w w' : World} (h : Below w.heap.size w w') : w.grownBy w' none := ⟨h.os, h.tape, h.output, h.size, fun j hj _ => h.block j hj⟩
theorem held_row {w : World} {B : Nat} {pv : Value} {p : List Int} (h : Held w B pv p) {g : Nat} {o : Obj} (hb : w.heap[g]? = some o) (ho : ∀ cur, o ≠ .cells cur 3 (0, 0)) : pv.ownBlock = none ∨ pv.ownBlock ≠ some g := own_ne h hb ho

/-- A state is marked as met. -/
theorem Rep.marked {B Bm Bw Mb : Nat} {w w' : World} {st : List Int × List (Int × List Int)} {wv : Value} {rows : RowL} {k : Int} (h : Rep B Bm Bw Mb w st wv rows) (hm : Met w' Mb (st.1.length + 1) (k :: st.1)) (hg : w.grownBy w' (some Mb)) :
    Rep B Bm Bw Mb w' (k :: st.1, st.2) wv rows := by
  obtain ⟨es, c, hb⟩ := h.met.lt
  have n1 : some Bm ≠ some Mb := fun e => by cases e; rw [h.m] at hb; cases hb
  have n2 : some Bw ≠ some Mb := fun e => by cases e; rw [h.v] at hb; cases hb
  exact ⟨by rw [hg.block Bm (lt_of_block h.m) n1]; exact h.m, by simpa using hm, by rw [hg.block Bw (lt_of_block h.v) n2]; exact h.v, h.own.kept hg (at_ne h.own hb (by simp)), h.same, fun r hr => (h.held r hr).kept hg (held_row (h.held r hr) hb (by simp))⟩
end Go.Proofs.Ytnjipfnajgcibaa.lw
