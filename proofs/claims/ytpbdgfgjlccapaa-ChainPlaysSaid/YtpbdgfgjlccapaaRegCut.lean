/-
  A region in a known order, cut in two: what is needed of the first part's end is said, the second goes on from there. For whatever program.
-/
import Derived.Test.YtpbdgfgjlccapaaBase
namespace Go.Proofs.Ytpbdgfgjlccapaa.ba
open Go.RowKit
set_option maxRecDepth 8000
set_option linter.unusedVariables false

section
variable {P : Program} {ops : Array Oper} {Q : Exit → Act → World → Prop} {w : World}
theorem oper_then {o : Oper} {a : Act} {K N : Act → World → Prop} (h : o.wp P a w K (Exit.then N Q)) : o.wp P a w K Q := by
  unfold Oper.wp at *
  generalize (execOp a.eval o).run P w = r at *
  cases r with
  | ok n w' => cases n <;> exact h
  | halt x w' => exact h
theorem wpList_app {N : Act → World → Prop} {l2 : List Oper} : ∀ {l1 : List Oper} {a : Act} {w : World}, wpList P ops (Exit.then N Q) l1 a w → (∀ a' w', N a' w' → wpList P ops Q l2 a' w') → wpList P ops Q (l1 ++ l2) a w := by
  intro l1
  induction l1 with
  | nil => intro a w h1 h2; exact h2 _ _ h1
  | cons o l1 ih =>
    intro a w h1 h2
    show wpList P ops Q (o :: (l1 ++ l2)) a w
    unfold wpList at h1 ⊢
    split
    · rename_i hw
      rw [if_pos hw] at h1
      rcases h1 with h1 | h1
      · exact .inl (Oper.wp_mono (fun a' w' h => ih h h2) (oper_then h1))
      · exact .inr h1
    · rename_i hw
      rw [if_neg hw] at h1
      exact ih h1 h2
/-- Cut behind the first k operations. -/
theorem wpList_cut (k : Nat) (N : Act → World → Prop) {l : List Oper} {a : Act} (h1 : wpList P ops (Exit.then N Q) (l.take k) a w) (h2 : ∀ a' w', N a' w' → wpList P ops Q (l.drop k) a' w') : wpList P ops Q l a w := by
  have := wpList_app h1 h2
  rwa [List.take_append_drop] at this
end
end Go.Proofs.Ytpbdgfgjlccapaa.ba
