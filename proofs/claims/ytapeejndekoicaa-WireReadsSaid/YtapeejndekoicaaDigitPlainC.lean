/-
  Layer 2, plain: small bytes read. No program is imported.
-/
namespace Go.Proofs.Ytapeejndekoicaa.dp
def pw (i : Nat) : Int := 128 ^ i
theorem pw_succ (i : Nat) : pw (i + 1) = pw i * 128 := Int.pow_succ 128 i
theorem pw_pos (i : Nat) : 1 ≤ pw i := by
  induction i with
  | zero => decide
  | succ n ih => rw [pw_succ]; omega
theorem pw_le (i : Nat) (h : i ≤ 8) : pw i ≤ 72057594037927936 := by
  have : i = 0 ∨ i = 1 ∨ i = 2 ∨ i = 3 ∨ i = 4 ∨ i = 5 ∨ i = 6 ∨ i = 7 ∨ i = 8 := by omega
  rcases this with rfl | rfl | rfl | rfl | rfl | rfl | rfl | rfl | rfl <;> decide
theorem pw_nine : pw 9 = 9223372036854775808 := by decide
/-- From the i-th byte on, n being what is read so far. -/
def rsF : List Int → Nat → Int → Int × Int × Int
  | [], _, _ => (0, 0, 4)
  | x :: xs, i, n => if (i = 9 ∧ 1 < x) ∨ (0 < i ∧ x = 0) then (0, 0, 3) else if x < 128 then (n + x * pw i, (i : Int) + 1, 0) else rsF xs (i + 1) (n + (x - 128) * pw i)
def readS (l : List Int) : Int × Int × Int := rsF l 0 0
end Go.Proofs.Ytapeejndekoicaa.dp
