/-
  Layer 2, plain: numbers as bytes. No program is imported.
-/
namespace Go.Proofs.Ytapeejndekoicaa.dp
/-- A number's small bytes. -/
def smaK : Nat → Nat → List Int
  | 0, _ => []
  | f + 1, n => if n < 128 then [(n : Int)] else ((n % 128 + 128 : Nat) : Int) :: smaK f (n / 128)
/-- Ten groups are enough. -/
def smaL (n : Nat) : List Int := smaK 10 n
/-- k bytes of a number, the highest first. -/
def beB (n : Nat) : Nat → List Int
  | 0 => []
  | k + 1 => ((n / 256 ^ k % 256 : Nat) : Int) :: beB n k
/-- How many bytes a number has. -/
def sizeK : Nat → Nat → Nat
  | 0, _ => 0
  | f + 1, n => if n = 0 then 0 else sizeK f (n / 256) + 1
def sizeO (n : Nat) : Nat := sizeK 8 n
/-- A number's ordered bytes. -/
def ordL (n : Nat) : List Int := (sizeO n : Int) :: beB n (sizeO n)

theorem smaK_len (f : Nat) : ∀ n, (smaK f n).length ≤ f := by
  induction f with
  | zero => intro n; simp [smaK]
  | succ f ih =>
    intro n
    rw [smaK]
    split
    · simp
    · simp; exact ih _
theorem beB_len (n k : Nat) : (beB n k).length = k := by
  induction k with
  | zero => rfl
  | succ k ih => simp [beB, ih]
end Go.Proofs.Ytapeejndekoicaa.dp
