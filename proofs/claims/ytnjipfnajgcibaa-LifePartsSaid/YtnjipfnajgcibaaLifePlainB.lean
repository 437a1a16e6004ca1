/-
  Layer 21, plain: the document's search, and that it finds what the code's finds.
-/
import Derived.Test.YtnjipfnajgcibaaLifePlain
namespace Go.Proofs.Ytnjipfnajgcibaa.lp

/-- The events from the v-th on, m of them: the first that moves and leads there. -/
def rowGo (f : Int → List Int × Bool) (frm : Int) (v : Nat) : Nat → List Int × Bool
  | 0 => ([], false)
  | m + 1 => if (moveF frm ((v : Int) + 1)).2 = 0 ∧ (f (moveF frm ((v : Int) + 1)).1).2 = true then (((v : Int) + 1) :: (f (moveF frm ((v : Int) + 1)).1).1, true) else rowGo f frm (v + 1) m
/-- The first row of just n events. -/
def rowF (to : Int) : Nat → Int → List Int × Bool
  | 0, frm => ([], decide (frm = to))
  | n + 1, frm => rowGo (rowF to n) frm 0 5
/-- The first of the shortest rows, from length n on, m lengths. -/
def lenF (frm to : Int) (n : Nat) : Nat → List Int × Bool
  | 0 => ([], false)
  | m + 1 => if (rowF to n frm).2 = true then ((rowF to n frm).1, true) else lenF frm to (n + 1) m

theorem rowGo_stop (f : Int → List Int × Bool) (frm : Int) (k : Nat) (hk : k < 5) (h1 : (moveF frm ((k : Int) + 1)).2 = 0) (h2 : (f (moveF frm ((k : Int) + 1)).1).2 = true) : rowGo f frm k (5 - k) = (((k : Int) + 1) :: (f (moveF frm ((k : Int) + 1)).1).1, true) := by
  obtain ⟨m, hm⟩ : ∃ m, 5 - k = m + 1 := ⟨5 - k - 1, by omega⟩
  rw [hm, rowGo, if_pos ⟨h1, h2⟩]
theorem rowGo_on (f : Int → List Int × Bool) (frm : Int) (k : Nat) (hk : k < 5) (h : ¬((moveF frm ((k : Int) + 1)).2 = 0 ∧ (f (moveF frm ((k : Int) + 1)).1).2 = true)) : rowGo f frm k (5 - k) = rowGo f frm (k + 1) (5 - (k + 1)) := by
  obtain ⟨m, hm⟩ : ∃ m, 5 - k = m + 1 := ⟨5 - k - 1, by omega⟩
  rw [hm, rowGo, if_neg h, show 5 - (k + 1) = m from by omega]
theorem lenF_stop (frm to : Int) (k : Nat) (hk : k < 7) (h : (rowF to k frm).2 = true) : lenF frm to k (7 - k) = ((rowF to k frm).1, true) := by
  obtain ⟨m, hm⟩ : ∃ m, 7 - k = m + 1 := ⟨7 - k - 1, by omega⟩
  rw [hm, lenF, if_pos h]
theorem lenF_on (frm to : Int) (k : Nat) (hk : k < 7) (h : (rowF to k frm).2 = false) : lenF frm to k (7 - k) = lenF frm to (k + 1) (7 - (k + 1)) := by
  obtain ⟨m, hm⟩ : ∃ m, 7 - k = m + 1 := ⟨7 - k - 1, by omega⟩
  rw [hm, lenF, if_neg (by rw [h]; simp), show 7 - (k + 1) = m from by omega]

theorem rowGo_len (f : Int → List Int × Bool) (b : Nat) (hf : ∀ s, (f s).1.length ≤ b) (frm : Int) : ∀ m v, (rowGo f frm v m).1.length ≤ b + 1 := by
  intro m
  induction m with
  | zero => intro v; simp [rowGo]
  | succ m ih =>
    intro v
    rw [rowGo]
    split
    · simp; exact hf _
    · exact ih _
theorem rowF_len (to : Int) : ∀ n frm, (rowF to n frm).1.length ≤ n := by
  intro n
  induction n with
  | zero => intro frm; simp [rowF]
  | succ n ih => intro frm; rw [rowF]; exact rowGo_len _ n ih _ _ _

/-- The rounds never run dry without the list's being empty at the sixth. -/
theorem at_end (frm : Int) (h0 : 0 ≤ frm) (h5 : frm ≤ 5) : (atF frm 6).2 = [] := by
  have hs : frm = 0 ∨ frm = 1 ∨ frm = 2 ∨ frm = 3 ∨ frm = 4 ∨ frm = 5 := by omega
  rcases hs with rfl | rfl | rfl | rfl | rfl | rfl <;> decide
def small (l : List (Int × List Int)) : Bool := l.all fun r => decide (0 ≤ r.1 ∧ r.1 ≤ 5 ∧ r.2.length ≤ 6)
def sizes (frm : Int) (k : Nat) : Bool := decide ((atF frm k).1.length ≤ 6) && decide ((atF frm k).2.length ≤ 6) && small (atF frm k).2
theorem sizes_all (frm : Int) (h0 : 0 ≤ frm) (h5 : frm ≤ 5) (k : Nat) (hk : k ≤ 6) : sizes frm k = true := by
  have hs : frm = 0 ∨ frm = 1 ∨ frm = 2 ∨ frm = 3 ∨ frm = 4 ∨ frm = 5 := by omega
  have hn : k = 0 ∨ k = 1 ∨ k = 2 ∨ k = 3 ∨ k = 4 ∨ k = 5 ∨ k = 6 := by omega
  rcases hn with rfl | rfl | rfl | rfl | rfl | rfl | rfl <;> rcases hs with rfl | rfl | rfl | rfl | rfl | rfl <;> decide
theorem at_sizes (frm : Int) (h0 : 0 ≤ frm) (h5 : frm ≤ 5) (k : Nat) (hk : k ≤ 6) : (atF frm k).1.length ≤ 6 ∧ (atF frm k).2.length ≤ 6 ∧ ∀ r ∈ (atF frm k).2, 0 ≤ r.1 ∧ r.1 ≤ 5 ∧ r.2.length ≤ 6 := by
  have h := sizes_all frm h0 h5 k hk
  simp only [sizes, Bool.and_eq_true, decide_eq_true_eq, small, List.all_eq_true] at h
  exact ⟨h.1.1, h.1.2, h.2⟩

theorem atF_step (frm : Int) (k : Nat) (r : Int × List Int) (q : List (Int × List Int)) (h : (atF frm k).2 = r :: q) : atF frm (k + 1) = nextF r.1 r.2 ((atF frm k).1, q) (canK r.1 5) := by rw [atF, h]
theorem findF_nil (frm to : Int) (k : Nat) (hk : k ≤ 6) (h : (atF frm k).2 = []) : findF frm to k (7 - k) = ([], false) := by
  obtain ⟨m, hm⟩ : ∃ m, 7 - k = m + 1 := ⟨7 - k - 1, by omega⟩
  rw [hm, findF, h]
theorem findF_hit (frm to : Int) (k : Nat) (hk : k ≤ 6) (r : Int × List Int) (q : List (Int × List Int)) (h : (atF frm k).2 = r :: q) (he : r.1 = to) : findF frm to k (7 - k) = (r.2, true) := by
  obtain ⟨m, hm⟩ : ∃ m, 7 - k = m + 1 := ⟨7 - k - 1, by omega⟩
  rw [hm, findF, h]
  simp [he]
theorem findF_on (frm to : Int) (k : Nat) (hk : k ≤ 6) (r : Int × List Int) (q : List (Int × List Int)) (h : (atF frm k).2 = r :: q) (he : r.1 ≠ to) : findF frm to k (7 - k) = findF frm to (k + 1) (7 - (k + 1)) := by
  obtain ⟨m, hm⟩ : ∃ m, 7 - k = m + 1 := ⟨7 - k - 1, by omega⟩
  rw [hm, findF, h, show 7 - (k + 1) = m from by omega]
  simp [he]

/-- The code's search finds what the document's finds; run, it leads there. -/
def agree (frm to : Int) : Bool :=
  decide (pathF frm to = lenF frm to 0 7) && decide ((pathF frm to).2 = (decide (0 < to) || decide (frm = 0))) && decide ((pathF frm to).1.length ≤ 3) &&
    (!(pathF frm to).2 || decide (runF (fun i => (pathF frm to).1.getD i 0) frm 0 (pathF frm to).1.length = (to, ((pathF frm to).1.length : Int), 0)))
theorem agree_all (frm to : Int) (h0 : 0 ≤ frm) (h5 : frm ≤ 5) (t0 : 0 ≤ to) (t5 : to ≤ 5) : agree frm to = true := by
  have hs : frm = 0 ∨ frm = 1 ∨ frm = 2 ∨ frm = 3 ∨ frm = 4 ∨ frm = 5 := by omega
  have ht : to = 0 ∨ to = 1 ∨ to = 2 ∨ to = 3 ∨ to = 4 ∨ to = 5 := by omega
  rcases hs with rfl | rfl | rfl | rfl | rfl | rfl <;> rcases ht with rfl | rfl | rfl | rfl | rfl | rfl <;> decide
theorem path_known : pathF 5 3 = ([1, 2, 3], true) := by decide
end Go.Proofs.Ytnjipfnajgcibaa.lp
