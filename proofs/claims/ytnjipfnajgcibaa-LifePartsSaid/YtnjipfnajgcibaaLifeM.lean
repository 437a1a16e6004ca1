/-
  The walk of the law LifeParts.
-/
import Derived.Test.YtnjipfnajgcibaaLifeG
import Derived.Test.YtnjipfnajgcibaaInts
import Derived.Deep.QuietTactic
import Derived.BigQuiet
import Derived.Laws.OwnMore
namespace Go.Proofs.Ytnjipfnajgcibaa.lw
open Go.RowKit Go.Proofs.Ytnjipfnajgcibaa.ba Go.Proofs.Ytnjipfnajgcibaa.lp
set_option linter.unusedVariables false

/-- Two rows, one behind the other. -/
theorem runF_two (W Z Y : Nat → Int) (n2 : Nat) : ∀ (n1 : Nat) (s : Int) (i : Nat), (∀ j, j < n1 → W (i + j) = Z (i + j)) → (∀ j, j < n2 → W (i + n1 + j) = Y j) →
    runF W s i (n1 + n2) = if (runF Z s i n1).2.2 = 0 then ((runF Y (runF Z s i n1).1 0 n2).1, ((i + n1 : Nat) : Int) + (runF Y (runF Z s i n1).1 0 n2).2.1, (runF Y (runF Z s i n1).1 0 n2).2.2) else runF Z s i n1 := by
  intro n1
  induction n1 with
  | zero =>
    intro s i _ h2
    simp only [runF, Nat.zero_add, Nat.add_zero, if_true]
    have shift : ∀ (n : Nat) (s : Int) (i j : Nat), (∀ x, x < n → W (i + x) = Y (j + x)) → runF W s i n = ((runF Y s j n).1, ((i : Int) - j) + (runF Y s j n).2.1, (runF Y s j n).2.2) := by
      intro n
      induction n with
      | zero => intro s i j _; simp [runF]
      | succ n ih =>
        intro s i j h
        have e0 : W i = Y j := by simpa using h 0 (by omega)
        simp only [runF]
        rw [e0]
        split
        · rw [ih _ (i + 1) (j + 1) (fun x hx => by have := h (x + 1) (by omega); rw [show i + 1 + x = i + (x + 1) from by omega, show j + 1 + x = j + (x + 1) from by omega]; exact this)]
          simp only [Prod.mk.injEq, true_and, and_true]
          omega
        · simp only [Prod.mk.injEq, true_and, and_true]; omega
    have := shift n2 s i 0 (fun x hx => by have := h2 x hx; simpa using this)
    rw [this]
    simp
  | succ n1 ih =>
    intro s i h1 h2
    have e0 : W i = Z i := by simpa using h1 0 (by omega)
    rw [show n1 + 1 + n2 = (n1 + n2) + 1 from by omega]
    simp only [runF]
    rw [e0]
    split
    · have := ih (moveF s (Z i)).1 (i + 1) (fun j hj => by rw [show i + 1 + j = i + (j + 1) from by omega]; exact h1 (j + 1) (by omega)) (fun j hj => by rw [show i + 1 + n1 + j = i + (n1 + 1) + j from by omega]; exact h2 j hj)
      rw [this, show i + 1 + n1 = i + (n1 + 1) from by omega]
    · rename_i hne
      first | rfl | simp [hne]

theorem two_lists (Z Y : Nat → Int) (s : Int) (n1 n2 : Nat) : runF (fun i => (listOf Z n1 ++ listOf Y n2).getD i 0) s 0 (n1 + n2) = if (runF Z s 0 n1).2.2 = 0 then ((runF Y (runF Z s 0 n1).1 0 n2).1, (n1 : Int) + (runF Y (runF Z s 0 n1).1 0 n2).2.1, (runF Y (runF Z s 0 n1).1 0 n2).2.2) else runF Z s 0 n1 := by
  have h := runF_two (fun i => (listOf Z n1 ++ listOf Y n2).getD i 0) Z Y n2 n1 s 0 (fun j hj => ?_) (fun j hj => ?_)
  · simpa using h
  · simp only [Nat.zero_add]
    have := listOf_getD Z n1 j hj
    simp only [List.getD] at this ⊢
    rw [List.getElem?_append_left (by rw [listOf_length]; exact hj), this]
  · simp only [Nat.zero_add]
    have := listOf_getD Y n2 j hj
    simp only [List.getD] at this ⊢
    rw [List.getElem?_append_right (by rw [listOf_length]; omega), listOf_length, show n1 + j - n1 = j from by omega, this]


/-- The three runs. -/
structure Runs (s : Int) (a b : Option Addr) (n1 ca n2 cb : Nat) (Za Zb : Nat → Int) (w : World) (R1 R2 : Int × Int × Int) : Prop where
  one : ∀ w2, Below w.heap.size w w2 → Calls Try.prog 13 #[.int .i64 s, .slice a n1 ca] w2 fun x w' => x = .returned (.tuple #[.int .i64 R1.1, .int .i64 R1.2.1, .int .i64 R1.2.2]) ∧ Below w2.heap.size w2 w'
  two : ∀ w2, Below w.heap.size w w2 → Calls Try.prog 13 #[.int .i64 R1.1, .slice b n2 cb] w2 fun x w' => x = .returned (.tuple #[.int .i64 R2.1, .int .i64 R2.2.1, .int .i64 R2.2.2]) ∧ Below w2.heap.size w2 w'
  both : ∀ w2 v c base n, n = n1 + n2 → w2.ownsRow base 3 1 (.slice v n c) n ((listOf Za n1 ++ listOf Zb n2).map (Value.int .i64)) → Calls Try.prog 13 #[.int .i64 s, .slice v n c] w2 fun x w' =>
    x = .returned (if R1.2.2 = 0 then .tuple #[.int .i64 R2.1, .int .i64 ((n1 : Int) + R2.2.1), .int .i64 R2.2.2] else .tuple #[.int .i64 R1.1, .int .i64 R1.2.1, .int .i64 R1.2.2]) ∧ Below w2.heap.size w2 w'

theorem runs_any (s : Int) (a b : Option Addr) (n1 ca n2 cb : Nat) (Za Zb : Nat → Int) (w : World) (h1 : n1 ≤ 30) (h2 : n2 ≤ 30) (hA : Ints .i64 w a n1 Za) (hB : Ints .i64 w b n2 Zb) :
    ∃ R1 R2 : Int × Int × Int, Runs s a b n1 ca n2 cb Za Zb w R1 R2 ∧ R2.2.1 ≤ n2 ∧ 0 ≤ R2.2.1 := by
  have hrb : ∀ (Z : Nat → Int) (n : Nat) (s : Int) (i : Nat), (i : Int) ≤ (runF Z s i n).2.1 ∧ (runF Z s i n).2.1 ≤ (i : Int) + n := by
    intro Z n
    induction n with
    | zero => intro s i; simp [runF]
    | succ n ih =>
      intro s i
      simp only [runF]
      split
      · have := ih (moveF s (Z i)).1 (i + 1); omega
      · simp only; omega
  refine ⟨runF Za s 0 n1, runF Zb (runF Za s 0 n1).1 0 n2, ⟨fun w2 hb => run_any _ _ _ _ _ _ (by omega) (hA.below hb), fun w2 hb => run_any _ _ _ _ _ _ (by omega) (hB.below hb), fun w2 v c base n hn hown => ?_⟩, ?_, ?_⟩
  · subst hn
    have h := run_any s v (n1 + n2) c _ w2 (by omega) (Ints.own hown)
    rw [two_lists] at h
    refine h.mono ?_
    rintro x w' ⟨rfl, hb⟩
    refine ⟨?_, hb⟩
    split <;> rfl
  · have := hrb Zb n2 (runF Za s 0 n1).1 0; omega
  · have := hrb Zb n2 (runF Za s 0 n1).1 0; omega

end Go.Proofs.Ytnjipfnajgcibaa.lw
