/-
  Layer 12, plain: versions; what has come of a list gone through backwards. No program is imported.
-/
import Derived.Test.YtpbdgfgjlccapaaRecPlain
namespace Go.Proofs.Ytpbdgfgjlccapaa.cp
open Go.Proofs.Ytpbdgfgjlccapaa.rp
set_option linter.unusedVariables false

/-- A version: its time, is it dead, its record. -/
structure V where
  a : Int
  d : Bool
  r : R
def zeroR : R := ⟨0, 0, 0, 0, 0, false, 0, 0, ⟨#[]⟩⟩
def zeroV : V := ⟨0, false, zeroR⟩
structure V.ok (v : V) : Prop where
  a : 0 ≤ v.a ∧ v.a ≤ 18446744073709551615
  r : v.r.ok

/-- What has come of L when m are left. -/
def come (L : List V) (m : Nat) : List (Nat × V) := ((List.range' m (L.length - m)).reverse).map fun j => (j, (L[j]?).getD zeroV)
theorem come_all (L : List V) : come L L.length = [] := by simp [come]
theorem come_step (L : List V) (m : Nat) (v : V) (h : L[m]? = some v) : come L m = come L (m + 1) ++ [(m, v)] := by
  have hm : m < L.length := (List.getElem?_eq_some_iff.1 h).1
  unfold come
  rw [show L.length - m = (L.length - (m + 1)) + 1 from by omega, List.range'_succ, List.reverse_cons, List.map_append]
  simp [h]
theorem come_length (L : List V) (m : Nat) : (come L m).length = L.length - m := by simp [come]
theorem come_snoc {L : List V} {m m' : Nat} {x : Nat × V} (h : come L m' = come L m ++ [x]) (hm : m ≤ L.length) : m' + 1 = m := by
  have := congrArg List.length h
  rw [List.length_append, come_length, come_length, List.length_singleton] at this
  omega
/-- The place of the newest one up to a time, among the first k. -/
def seenK (L : List V) (t : Int) : Nat → Int
  | 0 => -1
  | k + 1 => match L[k]? with
    | some v => if v.a ≤ t then (k : Int) else seenK L t k
    | none => seenK L t k
/-- Those of the first k that f keeps. -/
def keepK (L : List V) (f : Nat → Bool) : Nat → List V
  | 0 => []
  | k + 1 => match L[k]? with
    | some v => if f k then keepK L f k ++ [v] else keepK L f k
    | none => keepK L f k
theorem keepK_congr (L : List V) (f h : Nat → Bool) (n : Nat) : ∀ k, k ≤ n → (∀ j, j < n → f j = h j) → keepK L f k = keepK L h k
  | 0, _, _ => rfl
  | k + 1, hk, e => by
    unfold keepK
    rw [keepK_congr L f h n k (by omega) e, e k (by omega)]
theorem keepK_len (L : List V) (f : Nat → Bool) : ∀ k, (keepK L f k).length ≤ k
  | 0 => Nat.le_refl _
  | k + 1 => by
    have := keepK_len L f k
    unfold keepK
    split
    · split
      · rw [List.length_append]; simp; omega
      · omega
    · omega
/-- Is the one at j needed by pins? -/
def needF (L : List V) (P : List Int) (j : Nat) : Bool := decide (j + 1 = L.length) || P.any fun p => seenK L p L.length == (j : Int)
end Go.Proofs.Ytpbdgfgjlccapaa.cp
