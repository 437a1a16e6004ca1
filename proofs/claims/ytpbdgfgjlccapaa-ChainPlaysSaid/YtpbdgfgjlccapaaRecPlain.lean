/-
  Layer 10, plain: records; what a kind uses; whether one is right. No program is imported.
-/
import Derived.Test.YtpbdgfgjlccapaaRows
namespace Go.Proofs.Ytpbdgfgjlccapaa.rp
set_option linter.unusedVariables false

/-- A record: kind, state, user, parent, mask, gone, revision, time, text. -/
structure R where
  k : Int
  s : Int
  u : Int
  p : Int
  m : Int
  g : Bool
  v : Int
  a : Int
  t : ByteArray

/-- Its numbers are of their types. -/
structure R.ok (r : R) : Prop where
  k : 0 ≤ r.k ∧ r.k ≤ 255
  s : 0 ≤ r.s ∧ r.s ≤ 255
  u : 0 ≤ r.u ∧ r.u ≤ 255
  p : 0 ≤ r.p ∧ r.p ≤ 255
  m : 0 ≤ r.m ∧ r.m ≤ 255
  v : 0 ≤ r.v ∧ r.v ≤ 4294967295
  a : 0 ≤ r.a ∧ r.a ≤ 18446744073709551615
  t : r.t.size ≤ 9223372036854775807

/-- What a kind uses: which of the visitor's closures, and which field. -/
def usesK (k : Int) : List (Nat × Nat) :=
  if k = 1 then [(0, 2)] else if k = 2 then [(0, 4)] else if k = 4 then [(0, 3), (0, 1), (3, 7)] else if k = 5 then [(1, 5), (2, 6), (4, 8)] else if k = 6 then [(0, 1), (0, 2), (2, 6), (4, 8)] else []

/-- Is nothing set that the kind doesn't use? -/
def bareZ (r : R) : Prop :=
  ((r.k = 4 ∨ r.k = 6) ∨ r.s = 0) ∧ ((r.k = 1 ∨ r.k = 6) ∨ r.u = 0) ∧ (r.k = 4 ∨ r.p = 0) ∧ (r.k = 2 ∨ r.m = 0) ∧ (r.k = 5 ∨ r.g = false) ∧ ((r.k = 5 ∨ r.k = 6) ∨ r.v = 0) ∧ (r.k = 4 ∨ r.a = 0) ∧ ((r.k = 5 ∨ r.k = 6) ∨ r.t = ⟨#[]⟩)
/-- Are a right kind's numbers? -/
def inZ (r : R) : Prop :=
  (r.k = 1 → r.u < 16) ∧ (r.k = 2 → 1 ≤ r.m ∧ r.m ≤ 63) ∧ (r.k = 4 → r.p < 4 ∧ r.s ≤ 1) ∧ (r.k = 5 → 0 < r.v) ∧ (r.k = 6 → (1 ≤ r.s ∧ r.s ≤ 5) ∧ r.u < 16 ∧ 0 < r.v)
instance (r : R) : Decidable (bareZ r) := by unfold bareZ; infer_instance
instance (r : R) : Decidable (inZ r) := by unfold inZ; infer_instance
/-- What is wrong with a record. -/
def checkF (r : R) : Int :=
  if r.k < 1 ∨ 6 < r.k then 16
  else if ¬ bareZ r then 3
  else if ¬ inZ r then 5
  else if 60 < r.t.size then 2
  else if r.g = true ∧ r.t ≠ ⟨#[]⟩ then 3
  else 0
end Go.Proofs.Ytpbdgfgjlccapaa.rp
