/-
  The walk of the law DigitCompares.
-/
import Derived.Test.YtgedabhobpcghaaDigitJ
namespace Go.Proofs.Ytgedabhobpcghaa.dw
open Go.RowKit Go.Proofs.Ytgedabhobpcghaa.ba Go.Proofs.Ytgedabhobpcghaa.dp
set_option linter.unusedVariables false

/-- The five comparings of two rows of bytes. -/
theorem compares_five (a b : Option Addr) (n1 ca n2 cb : Nat) (Za Zb : Nat → Int) (w : World) (h1 : n1 ≤ 60) (h2 : n2 ≤ 60) (hA : Ints .u8 w a n1 Za) (hB : Ints .u8 w b n2 Zb) : ∃ C : Int, (C = -1 ∨ C = 0 ∨ C = 1) ∧
    (∀ w2, Below w.heap.size w w2 → Calls Try.prog 17 #[.slice a n1 ca, .slice b n2 cb] w2 fun e w' => e = .returned (.bool (decide (C = -1))) ∧ Below w2.heap.size w2 w') ∧
    (∀ w2, Below w.heap.size w w2 → Calls Try.prog 17 #[.slice b n2 cb, .slice a n1 ca] w2 fun e w' => e = .returned (.bool (decide (-C = -1))) ∧ Below w2.heap.size w2 w') ∧
    (∀ w2, Below w.heap.size w w2 → Calls Try.prog 16 #[.slice a n1 ca, .slice b n2 cb] w2 fun e w' => e = .returned (.int .i64 C) ∧ Below w2.heap.size w2 w') ∧
    (∀ w2, Below w.heap.size w w2 → Calls Try.prog 16 #[.slice b n2 cb, .slice a n1 ca] w2 fun e w' => e = .returned (.int .i64 (-C)) ∧ Below w2.heap.size w2 w') ∧
    (∀ w2, Below w.heap.size w w2 → Calls Try.prog 16 #[.slice a n1 ca, .slice a n1 ca] w2 fun e w' => e = .returned (.int .i64 0) ∧ Below w2.heap.size w2 w') := by
  have LX := Lst.of_ints hA
  have LY := Lst.of_ints hB
  have lx := listOf_length Za n1
  have ly := listOf_length Zb n2
  refine ⟨cmpL (listOf Za n1) (listOf Zb n2), cmpL_bounds _ _, fun w2 hb => ?_, fun w2 hb => ?_, fun w2 hb => ?_, fun w2 hb => ?_, fun w2 hb => ?_⟩
  · have := less_any a b ca cb _ _ w2 (by omega) (by omega) (LX.below hb) (LY.below hb); rw [lessL_cmp, lx, ly] at this; exact this
  · have := less_any b a cb ca _ _ w2 (by omega) (by omega) (LY.below hb) (LX.below hb); rw [lessL_cmp, lx, ly, cmpL_neg (listOf Za n1)] at this; exact this
  · have := compare_any a b ca cb _ _ w2 (by omega) (by omega) (LX.below hb) (LY.below hb); rw [lx, ly] at this; exact this
  · have := compare_any b a cb ca _ _ w2 (by omega) (by omega) (LY.below hb) (LX.below hb); rw [lx, ly, cmpL_neg (listOf Za n1)] at this; exact this
  · have := compare_any a a ca ca _ _ w2 (by omega) (by omega) (LX.below hb) (LX.below hb); rw [lx, (cmpL_zero (listOf Za n1) (listOf Za n1)).2 rfl] at this; exact this
end Go.Proofs.Ytgedabhobpcghaa.dw
