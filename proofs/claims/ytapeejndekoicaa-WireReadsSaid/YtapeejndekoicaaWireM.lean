/-
  The walk of layer 3's example.
-/
import Derived.Test.YtapeejndekoicaaWireL
namespace Go.Proofs.Ytapeejndekoicaa.ww
open Go.RowKit Go.Proofs.Ytapeejndekoicaa.ba Go.Proofs.Ytapeejndekoicaa.dp Go.Proofs.Ytapeejndekoicaa.wp Go.Proofs.Ytapeejndekoicaa.dw
set_option linter.unusedVariables false

theorem new_own (room R : Int) (hR : R = if room < 0 then 0 else room) (w : World) : Calls Try.prog 10 #[.int .i64 room] w fun x w' => x = .returned (.pointer (some ⟨w.heap.size, 0, none⟩)) ∧ KW w w' w.heap.size ([], 0) R := by
  subst hR
  exact (new_any room w).mono fun x w' ⟨h1, h2, h3⟩ => ⟨h1, Nat.le_refl _, h3, none, h2, by simp⟩
section
variable {w W : World} {g : Nat}
theorem kn2 (h : KW w W g ([], 0) 20) : Calls Try.prog 24 #[.pointer (some ⟨g, 0, none⟩), .slice (some ⟨W.heap.size, 0, none⟩) 1 1] (W.alloc (.cells #[.int .u8 7] 5)) fun x w' => x = .returned (.pointer (some ⟨g, 0, none⟩)) ∧ KW w w' g ([7], 0) 20 := by
  have := (h.below (box_below W (.cells #[.int .u8 7] 5))).call fun q hq => byte_any g q [] 0 20 7 W.heap.size 0 _ hq (by decide) (by decide) (by decide) (box_cell W _ _)
  rw [show wput 20 [7] ([], 0) = ([7], 0) from by decide] at this
  exact this
theorem kn3 (h : KW w W g ([7], 0) 20) : Calls Try.prog 22 #[.pointer (some ⟨g, 0, none⟩), .int .i64 258] W fun x w' => x = .returned (.pointer (some ⟨g, 0, none⟩)) ∧ KW w w' g ([7, 1, 2], 0) 20 := by
  have := h.call fun q hq => short_any g q [7] 0 20 258 _ hq (by decide) (by decide) (by decide) (by decide)
  rw [show wput 20 (beB 258 2) ([7], 0) = ([7, 1, 2], 0) from by decide] at this
  exact this
theorem kn4 (h : KW w W g ([7, 1, 2], 0) 20) : Calls Try.prog 27 #[.pointer (some ⟨g, 0, none⟩), .string ⟨#[97, 98]⟩] W fun x w' => x = .returned (.pointer (some ⟨g, 0, none⟩)) ∧ KW w w' g ([7, 1, 2, 2, 97, 98], 0) 20 := by
  have := h.call fun q hq => text_any g q [7, 1, 2] 0 20 ⟨#[97, 98]⟩ _ hq (by decide) (by decide) (by decide) (by decide)
  rw [show wput 20 (smaL (ByteArray.size ⟨#[97, 98]⟩) ++ strL ⟨#[97, 98]⟩) ([7, 1, 2], 0) = ([7, 1, 2, 2, 97, 98], 0) from by decide] at this
  exact this
theorem kn5 (h : KW w W g ([7, 1, 2, 2, 97, 98], 0) 20) : Calls Try.prog 12 #[.pointer (some ⟨g, 0, none⟩)] W fun x w' => ∃ a c, x = .returned (.tuple #[.slice a 6 c, .int .i64 0]) ∧ Lst .u8 w' a [7, 1, 2, 2, 97, 98] ∧ (a = none → False) ∧ Below w.heap.size w w' := by
  obtain ⟨h1, h2, q, h3, h4⟩ := h
  refine (bytes_any g q _ 0 20 W h3 (by decide)).mono fun x w' ⟨a, c, k1, _, _, k2, k3, k4⟩ => ⟨a, c, k1, k2, fun h => by have := k3 h; simp at this, bthen h2 k4⟩
theorem kn6 (a : Option Addr) (c : Nat) (hL : Lst .u8 W a [7, 1, 2, 2, 97, 98]) : Calls Try.prog 15 #[.slice a 6 c, .slice (some ⟨W.heap.size, 0, none⟩) 6 6] (W.alloc (.cells #[.int .u8 7, .int .u8 1, .int .u8 2, .int .u8 2, .int .u8 97, .int .u8 98] 5)) fun x w' => x = .returned (.bool true) ∧ Below W.heap.size W w' := by
  have hb := box_below W (.cells #[.int .u8 7, .int .u8 1, .int .u8 2, .int .u8 2, .int .u8 97, .int .u8 98] 5)
  have h := same_any a (some ⟨W.heap.size, 0, none⟩) c 6 [7, 1, 2, 2, 97, 98] [7, 1, 2, 2, 97, 98] _ (by decide) (by decide) (hL.below hb) (lst_new .u8 W [7, 1, 2, 2, 97, 98] 5)
  rw [show decide (([7, 1, 2, 2, 97, 98] : List Int) = [7, 1, 2, 2, 97, 98]) = true from by decide] at h
  exact h.mono fun x w' ⟨h1, h2⟩ => ⟨h1, bthen hb h2⟩
theorem kn7 (a : Option Addr) (c : Nat) (hb : Below w.heap.size w W) (hna : a = none → False) (hL : Lst .u8 W a [7, 1, 2, 2, 97, 98]) : Calls Try.prog 16 #[.slice a 6 c] W fun x w' => ∃ g, x = .returned (.pointer (some ⟨g, 0, none⟩)) ∧ KR w w' g [7, 1, 2, 2, 97, 98] 0 := by
  refine (newr_any a 6 c _ W rfl (by decide) hL (fun h => (hna h).elim) (by intro v hv; simp at hv; omega)).mono fun x w' ⟨g, h1, h2, h3, h4⟩ => ⟨g, h1, Nat.le_trans hb.size h2, bthen hb h3, h4.base hb.size⟩
theorem kn8 (h : KR w W g [7, 1, 2, 2, 97, 98] 0) : Calls Try.prog 28 #[.pointer (some ⟨g, 0, none⟩)] W fun x w' => x = .returned (.int .u8 7) ∧ KR w w' g [1, 2, 2, 97, 98] 0 := by
  have := rbyte_any g _ 0 W h.2.2
  rw [show tkF 0 (fixF 1 [7, 1, 2, 2, 97, 98]) [7, 1, 2, 2, 97, 98] 0 = (7, [1, 2, 2, 97, 98], 0) from by decide] at this
  exact this.mono fun x w' ⟨h1, h2⟩ => ⟨h1, h.done h2⟩
theorem kn9 (h : KR w W g [1, 2, 2, 97, 98] 0) : Calls Try.prog 29 #[.pointer (some ⟨g, 0, none⟩)] W fun x w' => x = .returned (.int .i64 258) ∧ KR w w' g [2, 97, 98] 0 := by
  have := rshort_any g _ 0 W h.2.2
  rw [show tkF 0 (fixF 2 [1, 2, 2, 97, 98]) [1, 2, 2, 97, 98] 0 = (258, [2, 97, 98], 0) from by decide] at this
  exact this.mono fun x w' ⟨h1, h2⟩ => ⟨h1, h.done h2⟩
theorem kn10 (h : KR w W g [2, 97, 98] 0) : Calls Try.prog 31 #[.pointer (some ⟨g, 0, none⟩), .int .i64 1] W fun x w' => x = .returned (.string ⟨#[]⟩) ∧ KR w w' g [2, 97, 98] 2 := by
  have := rtext_any g 1 _ 0 W (by decide) (by decide) h.2.2
  rw [show tkF [] (txtF 1 [2, 97, 98]) [2, 97, 98] 0 = ([], [2, 97, 98], 2) from by decide] at this
  exact this.mono fun x w' ⟨h1, h2⟩ => ⟨h1, h.done h2⟩
theorem kn11 (h : KR w W g [2, 97, 98] 2) : Calls Try.prog 20 #[.pointer (some ⟨g, 0, none⟩)] W fun x w' => x = .returned (.int .i64 2) ∧ W = w' := err_any g _ 2 W h.2.2
end

set_option maxHeartbeats 2000000 in
theorem known_any (w : World) : Calls Try.prog 14 #[] w fun x w' => x = .returned (.bool true) ∧ Below w.heap.size w w' := by
  go_enter Try.func14, Try.ntmps14
  go_wp2_with (first
    | (go_at_call 10; ((with_reducible refine (new_own 20 20 (by decide) _).mono ?_); rintro x W1 ⟨rfl, hK1⟩))
    | (go_at_call 24; ((with_reducible refine (kn2 hK1).mono ?_); rintro x W2 ⟨rfl, hK2⟩))
    | (go_at_call 22; ((with_reducible refine (kn3 hK2).mono ?_); rintro x W3 ⟨rfl, hK3⟩))
    | (go_at_call 27; ((with_reducible refine (kn4 hK3).mono ?_); rintro x W4 ⟨rfl, hK4⟩))
    | (go_at_call 12; ((with_reducible refine (kn5 hK4).mono ?_); rintro x W5 ⟨a5, c5, rfl, hL5, hn5, hb5⟩))
    | (go_at_call 15; ((with_reducible refine (kn6 _ _ hL5).mono ?_); rintro x W6 ⟨rfl, hb6⟩; replace hb5 := bthen hb5 hb6; replace hL5 := hL5.below hb6))
    | (go_at_call 16; ((with_reducible refine (kn7 _ _ hb5 hn5 hL5).mono ?_); rintro x W7 ⟨g, rfl, hR7⟩))
    | (go_at_call 28; ((with_reducible refine (kn8 hR7).mono ?_); rintro x W8 ⟨rfl, hR8⟩))
    | (go_at_call 29; ((with_reducible refine (kn9 hR8).mono ?_); rintro x W9 ⟨rfl, hR9⟩))
    | (go_at_call 31; ((with_reducible refine (kn10 hR9).mono ?_); rintro x W10 ⟨rfl, hR10⟩))
    | (go_at_call 20; ((with_reducible refine (kn11 hR10).mono ?_); rintro x W11 ⟨rfl, rfl⟩)))
  go_ret
  exact ⟨ret_bool (by simp), hR10.2.1⟩
end Go.Proofs.Ytapeejndekoicaa.ww
