/-
  The walk of layer 2's examples.
-/
import Derived.Test.YtgedabhobpcghaaDigitI
import Derived.Test.YtgedabhobpcghaaDigitC
import Derived.Test.YtgedabhobpcghaaDigitE
namespace Go.Proofs.Ytgedabhobpcghaa.dw
open Go.RowKit Go.Proofs.Ytgedabhobpcghaa.ba Go.Proofs.Ytgedabhobpcghaa.dp
set_option linter.unusedVariables false

theorem lst_new (k : IntKind) (w : World) (l : List Int) (t : TypeId) : Lst k (w.alloc (.cells (l.map (Value.int k)).toArray t)) (some ⟨w.heap.size, 0, none⟩) l :=
  .inr ⟨w.heap.size, 0, rfl, fun i v hv => by
    rw [cell_of_row _ _ (0 + i) _ _ _ (heap_alloc_new w _)]
    simp [hv]⟩
theorem k_small (w : World) : Calls Try.prog 10 #[.slice (some ⟨w.heap.size, 0, none⟩) 2 2] (w.alloc (.cells #[.int .u8 128, .int .u8 0] 5)) fun x w' => x = .returned (.tuple #[.int .u64 0, .int .i64 0, .int .i64 3]) ∧ Below w.heap.size w w' := by
  have h := readS_any (some ⟨w.heap.size, 0, none⟩) 2 [128, 0] (w.alloc (.cells #[.int .u8 128, .int .u8 0] 5)) (by decide) (by decide) (by intro v hv; simp at hv; omega) (lst_new .u8 w [128, 0] 5)
  rw [show readS [128, 0] = (0, 0, 3) from by decide] at h
  exact h.mono fun x w' ⟨h1, h2⟩ => ⟨h1, ((Below.refl _ w).alloc (Nat.le_refl _) _).trans (h2.mono (by simp))⟩
theorem k_ord (w : World) : Calls Try.prog 8 #[.slice (some ⟨w.heap.size, 0, none⟩) 3 3] (w.alloc (.cells #[.int .u8 2, .int .u8 0, .int .u8 1] 5)) fun x w' => x = .returned (.tuple #[.int .u64 0, .int .i64 0, .int .i64 3]) ∧ Below w.heap.size w w' := by
  have h := readO_any (some ⟨w.heap.size, 0, none⟩) 3 [2, 0, 1] (w.alloc (.cells #[.int .u8 2, .int .u8 0, .int .u8 1] 5)) (by decide) (by decide) (by intro v hv; simp at hv; omega) (lst_new .u8 w [2, 0, 1] 5)
  rw [show readO [2, 0, 1] = (0, 0, 3) from by decide] at h
  exact h.mono fun x w' ⟨h1, h2⟩ => ⟨h1, ((Below.refl _ w).alloc (Nat.le_refl _) _).trans (h2.mono (by simp))⟩
theorem k_rowO (w : World) : Calls Try.prog 13 #[.slice (some ⟨w.heap.size, 0, none⟩) 2 2] (w.alloc (.cells #[.int .u64 0, .int .u64 256] 23)) fun x w' => ∃ a c, x = .returned (.slice a 4 c) ∧ Lst .u8 w' a [0, 2, 1, 0] ∧ Below w.heap.size w w' := by
  have h := ordered_any (some ⟨w.heap.size, 0, none⟩) 2 [0, 256] (w.alloc (.cells #[.int .u64 0, .int .u64 256] 23)) (by decide) (by intro v hv; simp at hv; omega) (lst_new .u64 w [0, 256] 23)
  rw [show ordR [0, 256] = [0, 2, 1, 0] from by decide] at h
  exact h.mono fun x w' ⟨a, c, h1, h2, h3⟩ => ⟨a, c, h1, Lst.own h2, ((Below.refl _ w).alloc (Nat.le_refl _) _).trans (h3.mono (by simp))⟩
theorem k_rowS (w : World) : Calls Try.prog 14 #[.slice (some ⟨w.heap.size, 0, none⟩) 1 1] (w.alloc (.cells #[.int .u64 300] 23)) fun x w' => ∃ a c, x = .returned (.slice a 2 c) ∧ Lst .u8 w' a [172, 2] ∧ Below w.heap.size w w' := by
  have h := small_any (some ⟨w.heap.size, 0, none⟩) 1 [300] (w.alloc (.cells #[.int .u64 300] 23)) (by decide) (by intro v hv; simp at hv; omega) (lst_new .u64 w [300] 23)
  rw [show smaR [300] = [172, 2] from by decide] at h
  exact h.mono fun x w' ⟨a, c, h1, h2, h3⟩ => ⟨a, c, h1, Lst.own h2, ((Below.refl _ w).alloc (Nat.le_refl _) _).trans (h3.mono (by simp))⟩
theorem k_same4 (w : World) (a : Option Addr) (c : Nat) (hL : Lst .u8 w a [0, 2, 1, 0]) : Calls Try.prog 15 #[.slice a 4 c, .slice (some ⟨w.heap.size, 0, none⟩) 4 4] (w.alloc (.cells #[.int .u8 0, .int .u8 2, .int .u8 1, .int .u8 0] 5)) fun x w' => x = .returned (.bool true) ∧ Below w.heap.size w w' := by
  have hb : Below w.heap.size w (w.alloc (.cells #[.int .u8 0, .int .u8 2, .int .u8 1, .int .u8 0] 5)) := (Below.refl _ w).alloc (Nat.le_refl _) _
  have h := same_any a (some ⟨w.heap.size, 0, none⟩) c 4 [0, 2, 1, 0] [0, 2, 1, 0] _ (by decide) (by decide) (hL.below hb) (lst_new .u8 w [0, 2, 1, 0] 5)
  rw [show decide (([0, 2, 1, 0] : List Int) = [0, 2, 1, 0]) = true from by decide] at h
  exact h.mono fun x w' ⟨h1, h2⟩ => ⟨h1, hb.trans (h2.mono (by simp))⟩
theorem k_same2 (w : World) (a : Option Addr) (c : Nat) (hL : Lst .u8 w a [172, 2]) : Calls Try.prog 15 #[.slice a 2 c, .slice (some ⟨w.heap.size, 0, none⟩) 2 2] (w.alloc (.cells #[.int .u8 172, .int .u8 2] 5)) fun x w' => x = .returned (.bool true) ∧ Below w.heap.size w w' := by
  have hb : Below w.heap.size w (w.alloc (.cells #[.int .u8 172, .int .u8 2] 5)) := (Below.refl _ w).alloc (Nat.le_refl _) _
  have h := same_any a (some ⟨w.heap.size, 0, none⟩) c 2 [172, 2] [172, 2] _ (by decide) (by decide) (hL.below hb) (lst_new .u8 w [172, 2] 5)
  rw [show decide (([172, 2] : List Int) = [172, 2]) = true from by decide] at h
  exact h.mono fun x w' ⟨h1, h2⟩ => ⟨h1, hb.trans (h2.mono (by simp))⟩
theorem k_cmp (w : World) : Calls Try.prog 16 #[.slice (some ⟨w.heap.size, 0, none⟩) 1 1, .slice (some ⟨w.heap.size + 1, 0, none⟩) 2 2] ((w.alloc (.cells #[.int .u8 1] 5)).alloc (.cells #[.int .u8 1, .int .u8 0] 5)) fun x w' => x = .returned (.int .i64 (-1)) ∧ Below w.heap.size w w' := by
  have hb1 : Below w.heap.size w (w.alloc (.cells #[.int .u8 1] 5)) := (Below.refl _ w).alloc (Nat.le_refl _) _
  have hb2 : Below (w.alloc (.cells #[.int .u8 1] 5)).heap.size (w.alloc (.cells #[.int .u8 1] 5)) ((w.alloc (.cells #[.int .u8 1] 5)).alloc (.cells #[.int .u8 1, .int .u8 0] 5)) := (Below.refl _ _).alloc (Nat.le_refl _) _
  have hL := lst_new .u8 (w.alloc (.cells #[.int .u8 1] 5)) [1, 0] 5
  rw [show (w.alloc (.cells #[.int .u8 1] 5)).heap.size = w.heap.size + 1 from by simp] at hL
  have h := compare_any (some ⟨w.heap.size, 0, none⟩) (some ⟨w.heap.size + 1, 0, none⟩) 1 2 [1] [1, 0] _ (by decide) (by decide) ((lst_new .u8 w [1] 5).below hb2) hL
  rw [show cmpL [1] [1, 0] = -1 from by decide] at h
  exact h.mono fun x w' ⟨h1, h2⟩ => ⟨h1, (hb1.trans (hb2.mono (by simp))).trans (h2.mono (by simp; omega))⟩

set_option maxHeartbeats 1000000 in
theorem known_any (w : World) : Calls Try.prog 12 #[] w fun x w' => x = .returned (.bool true) ∧ Below w.heap.size w w' := by
  have hbel : Below w.heap.size w w := Below.refl _ _
  go_enter Try.func12, Try.ntmps12
  go_wp2_with (first
    | (go_at_call 10; with_reducible refine (k_small _).mono ?_; rintro x W1 ⟨rfl, hb1⟩; replace hbel := bthen hbel hb1; clear hb1)
    | (go_at_call 8; with_reducible refine (k_ord _).mono ?_; rintro x W2 ⟨rfl, hb1⟩; replace hbel := bthen hbel hb1; clear hb1)
    | (go_at_call 13; with_reducible refine (k_rowO _).mono ?_; rintro x W3 ⟨a3, c3, rfl, hL3, hb1⟩; replace hbel := bthen hbel hb1; clear hb1)
    | (go_at_call 15; with_reducible refine (k_same4 _ _ _ hL3).mono ?_; rintro x W4 ⟨rfl, hb1⟩; replace hbel := bthen hbel hb1; clear hb1)
    | (go_at_call 14; with_reducible refine (k_rowS _).mono ?_; rintro x W5 ⟨a5, c5, rfl, hL5, hb1⟩; replace hbel := bthen hbel hb1; clear hb1)
    | (go_at_call 15; with_reducible refine (k_same2 _ _ _ hL5).mono ?_; rintro x W6 ⟨rfl, hb1⟩; replace hbel := bthen hbel hb1; clear hb1)
    | (go_at_call 16; with_reducible refine (k_cmp _).mono ?_; rintro x W7 ⟨rfl, hb1⟩; replace hbel := bthen hbel hb1; clear hb1))
  go_ret
  exact ⟨ret_bool rfl, hbel⟩
end Go.Proofs.Ytgedabhobpcghaa.dw
