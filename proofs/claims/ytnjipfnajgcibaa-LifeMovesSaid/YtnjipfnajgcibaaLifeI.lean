/-
  The walks of the laws LifeMoves, LifeRuns, LifePaths.
-/
import Derived.Test.YtnjipfnajgcibaaLifeG
namespace Go.Proofs.Ytnjipfnajgcibaa.lw
open Go.RowKit Go.Proofs.Ytnjipfnajgcibaa.ba Go.Proofs.Ytnjipfnajgcibaa.lp
set_option linter.unusedVariables false

theorem sameF_refl (Z : Nat → Int) (n : Nat) : sameF Z Z n = true := (sameF_iff Z Z n).2 fun _ _ => rfl

set_option maxHeartbeats 1000000 in
theorem lifeMoves_any (s e : Int) (w : World) : Calls Try.prog 3 #[.int .i64 s, .int .i64 e] w fun x w' => x = .returned (.bool true) ∧ Below w.heap.size w w' := by
  obtain ⟨i0, hi, hz0, hz1, hz2⟩ := info_parts info3
  have hm0 := moveF_bounds s e
  have hbel0 : Below w.heap.size w w := Below.refl _ _
  go_enter Try.func3, Try.ntmps3
  go_wp2_with (first
    | (go_at_call 8; refine (move_any _ _ _).mono ?_; rintro x W1 ⟨rfl, hb1⟩; replace hbel0 := bthen hbel0 hb1; clear hb1)
    | (go_at_call 9; refine (rmove_any _ _ _).mono ?_; rintro x W2 ⟨rfl, rfl⟩))
  go_loopw [9, 10] (fun o v wr => ∃ (k : Nat), k ≤ 5 ∧ v = .int .i64 ((k : Int) + 1) ∧ wr.ownsRow w.heap.size 3 1 o (canK s k).length ((canK s k).map (Value.int .i64)) ∧ Below w.heap.size w wr) (fun _ v _ => (6 - intOf v).toNat)
  case atStart => exact ⟨0, Nat.zero_le _, rfl, World.ownsRow_nil _ _ _ _, hbel0⟩
  case round =>
    obtain ⟨k, hk, rfl, hown, hbel⟩ := hrel
    clear hbel0
    by_cases hlt : k < 5
    · have hm := moveF_bounds s ((k : Int) + 1)
      have hle := canK_le s k
      have hzw := hbel.size
      by_cases he : (moveF s ((k : Int) + 1)).2 = 0
      · have hs : Hid (canK s (k + 1) = canK s k ++ [(k : Int) + 1]) := by show _ = _; rw [canK, if_pos he]
        go_wp2_with (first
          | (go_at_call 9; refine (rmove_any _ _ _).mono ?_; rintro x W2 ⟨rfl, rfl⟩)
          | (at_builtin; refine wpList_append_one rfl _ _ 27 rfl w.heap.size 3 i0 (.int .i64 0) 8 Try.underlying27 hi hz0 hz1 hz2 rfl u9 _ _ rfl hown _ rfl _ rfl (by omega) (by omega) (by omega) ?_; intro v2 W2 hown2 hg2))
        go_roundw
        case rel => exact ⟨k + 1, by omega, by go_num, by rw [hs.out]; simpa using hown2, below_append hbel (by omega) hown (Nat.le_refl _) hg2⟩
        case measure => simp [intOf]; omega
      · have hs : Hid (canK s (k + 1) = canK s k) := by show _ = _; rw [canK, if_neg he]
        have hne : ((moveF s ((k : Int) + 1)).2 == 0) = false := by simpa using he
        clear he
        go_wp2_with (go_at_call 9; refine (rmove_any _ _ _).mono ?_; rintro x W2 ⟨rfl, rfl⟩)
        go_roundw
        case rel => exact ⟨k + 1, by omega, by go_num, by rw [hs.out]; exact hown, hbel⟩
        case measure => simp [intOf]; omega
    · have : k = 5 := by omega
      subst this
      obtain ⟨a, cap, hv, _⟩ := own_form hown
      subst hv
      have hI := Ints.own hown
      clear hown
      have hcl := canK_le s 5
      go_wp2_with (first
        | (go_at_call 10; refine (known_any _).mono ?_; rintro x W1 ⟨rfl, hb1⟩; replace hI := hI.below hb1; replace hbel := bthen hbel hb1; clear hb1)
        | (go_at_call 12; refine (can_any _ _).mono ?_; rintro x W2 ⟨a2, c2, rfl, hown2, hb2⟩; replace hI := hI.below hb2; replace hbel := bthen hbel hb2; clear hb2)
        | (go_at_call 11; refine (same_any _ _ _ _ _ _ _ _ _ (by omega) (by omega) (Ints.own hown2) hI).mono ?_; rintro x W3 ⟨rfl, hb3⟩; rw [sameF_refl, decide_eq_true rfl]; replace hbel := bthen hbel hb3; clear hb3))
      go_ret
      exact ⟨ret_bool rfl, hbel⟩

end Go.Proofs.Ytnjipfnajgcibaa.lw
