/-
  Layer 2, plain: numbers read from bytes. No program is imported.
-/
namespace Go.Proofs.Ytapeejndekoicaa.dp
/-- Big-endian bytes' number, on from a number. -/
def beF (n : Int) : List Int → Int
  | [] => n
  | x :: xs => beF (n * 256 + x) xs
theorem beF_snoc (n : Int) (l : List Int) (x : Int) : beF n (l ++ [x]) = beF n l * 256 + x := by
  induction l generalizing n with
  | nil => rfl
  | cons y ys ih => exact ih _
theorem beF_from (l : List Int) : ∀ (n : Int) (m : Nat), (∀ v ∈ l, 0 ≤ v ∧ v ≤ 255) → 0 ≤ n → n < 256 ^ m → 0 ≤ beF n l ∧ beF n l < 256 ^ (m + l.length) := by
  induction l with
  | nil => intro n m _ h0 h1; exact ⟨h0, h1⟩
  | cons x xs ih =>
    intro n m h h0 h1
    have hx := h x (by simp)
    have e : m + (x :: xs).length = (m + 1) + xs.length := by simp; omega
    rw [e]
    exact ih _ (m + 1) (fun v hv => h v (by simp [hv])) (by omega) (by rw [Int.pow_succ]; omega)
theorem beF_bounds (l : List Int) (h : ∀ v ∈ l, 0 ≤ v ∧ v ≤ 255) : 0 ≤ beF 0 l ∧ beF 0 l < 256 ^ l.length := by
  have := beF_from l 0 0 h (by omega) (by decide)
  rwa [Nat.zero_add] at this
/-- What is read in order. -/
def readO : List Int → Int × Int × Int
  | [] => (0, 0, 4)
  | c :: t => if 8 < c then (0, 0, 3) else if (t.length : Int) < c then (0, 0, 4) else if 0 < c ∧ t.head? = some 0 then (0, 0, 3) else (beF 0 (t.take c.toNat), 1 + c, 0)
end Go.Proofs.Ytapeejndekoicaa.dp
