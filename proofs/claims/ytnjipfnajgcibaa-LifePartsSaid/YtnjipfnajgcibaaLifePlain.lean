/-
  Layer 21, plain: what an event does to a state; events one behind the other; the search for the shortest row. No program is imported.
-/
namespace Go.Proofs.Ytnjipfnajgcibaa.lp

/-- The state behind an event, and the error's number. -/
def moveF (s e : Int) : Int × Int :=
  if s < 0 ∨ 5 < s then (0, 5) else
  if e < 1 ∨ 5 < e then (0, 16) else
  if e = 1 then (1, 0) else
  if e = 2 then (if s = 1 then (2, 0) else (0, 9)) else
  if e = 3 then (if s = 2 then (3, 0) else (0, 9)) else
  if e = 4 then (if s = 2 ∨ s = 3 then (4, 0) else (0, 9)) else
  (if 0 < s then (5, 0) else (0, 9))

theorem moveF_bounds (s e : Int) : 0 ≤ (moveF s e).1 ∧ (moveF s e).1 ≤ 5 ∧ 0 ≤ (moveF s e).2 ∧ (moveF s e).2 ≤ 16 := by
  unfold moveF
  repeat' split
  all_goals decide

/-- The table's cell. -/
def cell (s e : Int) : Int := if (moveF s e).2 = 0 then (moveF s e).1 else -1
theorem cell_bounds (s e : Int) : -1 ≤ cell s e ∧ cell s e ≤ 5 := by
  unfold cell
  have := moveF_bounds s e
  split <;> omega

theorem moveF_neg (s e : Int) (h1 : 0 ≤ s) (h2 : s ≤ 5) (h3 : 1 ≤ e) (h4 : e ≤ 5) (h : cell s e < 0) : moveF s e = (0, 9) := by
  have hs : s = 0 ∨ s = 1 ∨ s = 2 ∨ s = 3 ∨ s = 4 ∨ s = 5 := by omega
  have he : e = 1 ∨ e = 2 ∨ e = 3 ∨ e = 4 ∨ e = 5 := by omega
  rcases hs with rfl | rfl | rfl | rfl | rfl | rfl <;> rcases he with rfl | rfl | rfl | rfl | rfl
  all_goals first | rfl | (exfalso; revert h; decide)

theorem moveF_pos (s e : Int) (h1 : 0 ≤ s) (h2 : s ≤ 5) (h3 : 1 ≤ e) (h4 : e ≤ 5) (h : 0 ≤ cell s e) : moveF s e = (cell s e, 0) := by
  have hs : s = 0 ∨ s = 1 ∨ s = 2 ∨ s = 3 ∨ s = 4 ∨ s = 5 := by omega
  have he : e = 1 ∨ e = 2 ∨ e = 3 ∨ e = 4 ∨ e = 5 := by omega
  rcases hs with rfl | rfl | rfl | rfl | rfl | rfl <;> rcases he with rfl | rfl | rfl | rfl | rfl
  all_goals first | rfl | (exfalso; revert h; decide)

/-- Events from the i-th on, n of them. -/
def runF (Z : Nat → Int) (s : Int) (i : Nat) : Nat → Int × Int × Int
  | 0 => (s, (i : Int), 0)
  | n + 1 => if (moveF s (Z i)).2 = 0 then runF Z (moveF s (Z i)).1 (i + 1) n else (s, (i : Int), (moveF s (Z i)).2)

theorem runF_step (Z : Nat → Int) (s : Int) (k len : Nat) (h : k < len) (he : (moveF s (Z k)).2 = 0) : runF Z s k (len - k) = runF Z (moveF s (Z k)).1 (k + 1) (len - (k + 1)) := by
  obtain ⟨n, hn⟩ : ∃ n, len - k = n + 1 := ⟨len - k - 1, by omega⟩
  rw [hn, show len - (k + 1) = n from by omega]
  simp only [runF]
  rw [if_pos he]

theorem runF_stop (Z : Nat → Int) (s : Int) (k len : Nat) (h : k < len) (he : (moveF s (Z k)).2 ≠ 0) : runF Z s k (len - k) = (s, (k : Int), (moveF s (Z k)).2) := by
  obtain ⟨n, hn⟩ : ∃ n, len - k = n + 1 := ⟨len - k - 1, by omega⟩
  rw [hn]
  simp only [runF]
  rw [if_neg he]

theorem runF_congr (Z Z' : Nat → Int) (n : Nat) : ∀ (s : Int) (i : Nat), (∀ j, i ≤ j → j < i + n → Z j = Z' j) → runF Z s i n = runF Z' s i n := by
  induction n with
  | zero => intro s i _; rfl
  | succ n ih =>
    intro s i h
    simp only [runF]
    rw [h i (Nat.le_refl _) (by omega), ih _ (i + 1) (fun j h1 h2 => h j (by omega) (by omega))]

/-- The first k events that may be tried, those that move. -/
def canK (s : Int) : Nat → List Int
  | 0 => []
  | k + 1 => if (moveF s ((k : Int) + 1)).2 = 0 then canK s k ++ [(k : Int) + 1] else canK s k
theorem canK_le (s : Int) (k : Nat) : (canK s k).length ≤ k := by
  induction k with
  | zero => exact Nat.le_refl _
  | succ k ih =>
    rw [canK]
    split
    · simp; omega
    · omega

/-- What was met, and what waits, behind one event; behind a row of events. -/
def stepF (s : Int) (p : List Int) (st : List Int × List (Int × List Int)) (v : Int) : List Int × List (Int × List Int) :=
  if (moveF s v).1 ∈ st.1 then st else ((moveF s v).1 :: st.1, st.2 ++ [((moveF s v).1, p ++ [v])])
def nextF (s : Int) (p : List Int) (st : List Int × List (Int × List Int)) (l : List Int) : List Int × List (Int × List Int) := l.foldl (stepF s p) st

theorem nextF_snoc (s : Int) (p : List Int) (st : List Int × List (Int × List Int)) (l : List Int) (v : Int) : nextF s p st (l ++ [v]) = stepF s p (nextF s p st l) v := by
  unfold nextF; rw [List.foldl_append]; rfl

/-- The search: k rounds from a state. -/
def atF (frm : Int) : Nat → List Int × List (Int × List Int)
  | 0 => ([frm], [(frm, [])])
  | k + 1 => match (atF frm k).2 with
    | [] => atF frm k
    | r :: q => nextF r.1 r.2 ((atF frm k).1, q) (canK r.1 5)

/-- The row that is found, from the k-th round on. -/
def findF (frm to : Int) (k : Nat) : Nat → List Int × Bool
  | 0 => ([], false)
  | n + 1 => match (atF frm k).2 with
    | [] => ([], false)
    | r :: _ => if r.1 = to then (r.2, true) else findF frm to (k + 1) n
def pathF (frm to : Int) : List Int × Bool := findF frm to 0 7
end Go.Proofs.Ytnjipfnajgcibaa.lp
