/-
  The walks of layer 21: moves and runs.
-/
import Derived.Test.YtnjipfnajgcibaaBase
import Derived.Test.YtnjipfnajgcibaaLifeA
namespace Go.Proofs.Ytnjipfnajgcibaa.lw
open Go.RowKit Go.Proofs.Ytnjipfnajgcibaa.ba Go.Proofs.Ytnjipfnajgcibaa.lp
set_option linter.unusedVariables false

theorem move_any (s e : Int) (w : World) :
    Calls Try.prog 8 #[.int .i64 s, .int .i64 e] w fun x w' => x = .returned (.tuple #[.int .i64 (moveF s e).1, .int .i64 (moveF s e).2]) ∧ Below w.heap.size w w' := by
  by_cases h1 : s < 0 ∨ 5 < s
  · have hm : moveF s e = (0, 5) := by unfold moveF; rw [if_pos h1]
    rw [hm]
    rcases h1 with h1 | h1
    all_goals
      go_enter Try.func8, Try.ntmps8
      go_wp2
      go_ret2
      exact ⟨rfl, Below.refl _ _⟩
  · by_cases h2 : e < 1 ∨ 5 < e
    · have hm : moveF s e = (0, 16) := by unfold moveF; rw [if_neg h1, if_pos h2]
      rw [hm]
      have hs : 0 ≤ s ∧ s ≤ 5 := by omega
      obtain ⟨hs1, hs2⟩ := hs
      rcases h2 with h2 | h2
      all_goals
        go_enter Try.func8, Try.ntmps8
        go_wp2
        go_ret2
        exact ⟨rfl, Below.refl _ _⟩
    · have hs : 0 ≤ s ∧ s ≤ 5 := by omega
      have he : 1 ≤ e ∧ e ≤ 5 := by omega
      obtain ⟨hs1, hs2⟩ := hs
      obtain ⟨he1, he2⟩ := he
      have i1 := idx_tbl s hs1 hs2
      have i2 := idx_row s e he1 he2
      have hc := cell_bounds s e
      by_cases h3 : cell s e < 0
      · rw [moveF_neg s e hs1 hs2 he1 he2 h3]
        go_enter Try.func8, Try.ntmps8
        go_wp2_with (go_at_call 22; refine (moves_any _).mono ?_; rintro x w1 ⟨rfl, hb⟩)
        go_ret2
        exact ⟨rfl, hb⟩
      · rw [moveF_pos s e hs1 hs2 he1 he2 (by omega)]
        go_enter Try.func8, Try.ntmps8
        go_wp2_with (go_at_call 22; refine (moves_any _).mono ?_; rintro x w1 ⟨rfl, hb⟩)
        go_ret2
        exact ⟨rfl, hb⟩

theorem rmove_any (s e : Int) (w : World) :
    Calls Try.prog 9 #[.int .i64 s, .int .i64 e] w fun x w' => x = .returned (.tuple #[.int .i64 (moveF s e).1, .int .i64 (moveF s e).2]) ∧ w = w' := by
  by_cases h1 : s < 0 ∨ 5 < s
  · have hm : moveF s e = (0, 5) := by unfold moveF; rw [if_pos h1]
    rw [hm]
    rcases h1 with h1 | h1
    all_goals
      go_enter Try.func9, Try.ntmps9
      go_wp2
      go_ret2
      exact ⟨rfl, rfl⟩
  · by_cases h2 : e < 1 ∨ 5 < e
    · have hm : moveF s e = (0, 16) := by unfold moveF; rw [if_neg h1, if_pos h2]
      rw [hm]
      have hs : 0 ≤ s ∧ s ≤ 5 := by omega
      obtain ⟨hs1, hs2⟩ := hs
      rcases h2 with h2 | h2
      all_goals
        go_enter Try.func9, Try.ntmps9
        go_wp2
        go_ret2
        exact ⟨rfl, rfl⟩
    · have he : e = 1 ∨ e = 2 ∨ e = 3 ∨ e = 4 ∨ e = 5 := by omega
      have hs : 0 ≤ s ∧ s ≤ 5 := by omega
      obtain ⟨hs1, hs2⟩ := hs
      clear h2
      rcases he with rfl | rfl | rfl | rfl | rfl
      · have hm : moveF s 1 = (1, 0) := by unfold moveF; rw [if_neg h1]; rfl
        clear h1
        rw [hm]
        go_enter Try.func9, Try.ntmps9
        go_wp2
        go_ret2
        exact ⟨rfl, rfl⟩
      · by_cases c : s = 1
        · subst c
          rw [show moveF 1 2 = (2, 0) from rfl]
          go_enter Try.func9, Try.ntmps9
          go_wp2
          go_ret2
          exact ⟨rfl, rfl⟩
        · have hm : moveF s 2 = (0, 9) := by unfold moveF; rw [if_neg h1, if_neg (by decide), if_neg (by decide), if_pos rfl, if_neg c]
          have cb : (s == 1) = false := by simpa using c
          clear h1
          rw [hm]
          go_enter Try.func9, Try.ntmps9
          go_wp2
          go_ret2
          exact ⟨rfl, rfl⟩
      · by_cases c : s = 2
        · subst c
          rw [show moveF 2 3 = (3, 0) from rfl]
          go_enter Try.func9, Try.ntmps9
          go_wp2
          go_ret2
          exact ⟨rfl, rfl⟩
        · have hm : moveF s 3 = (0, 9) := by unfold moveF; rw [if_neg h1, if_neg (by decide), if_neg (by decide), if_neg (by decide), if_pos rfl, if_neg c]
          have cb : (s == 2) = false := by simpa using c
          clear h1
          rw [hm]
          go_enter Try.func9, Try.ntmps9
          go_wp2
          go_ret2
          exact ⟨rfl, rfl⟩
      · by_cases c : s = 2
        · subst c
          rw [show moveF 2 4 = (4, 0) from rfl]
          go_enter Try.func9, Try.ntmps9
          go_wp2
          go_ret2
          exact ⟨rfl, rfl⟩
        · by_cases c3 : s = 3
          · subst c3
            rw [show moveF 3 4 = (4, 0) from rfl]
            go_enter Try.func9, Try.ntmps9
            go_wp2
            go_ret2
            exact ⟨rfl, rfl⟩
          · have hm : moveF s 4 = (0, 9) := by unfold moveF; rw [if_neg h1, if_neg (by decide), if_neg (by decide), if_neg (by decide), if_neg (by decide), if_pos rfl, if_neg (by omega)]
            have cb : (s == 2) = false := by simpa using c
            have cb3 : (s == 3) = false := by simpa using c3
            clear h1
            rw [hm]
            go_enter Try.func9, Try.ntmps9
            go_wp2
            go_ret2
            exact ⟨rfl, rfl⟩
      · by_cases c : 0 < s
        · have hm : moveF s 5 = (5, 0) := by unfold moveF; rw [if_neg h1, if_neg (by decide), if_neg (by decide), if_neg (by decide), if_neg (by decide), if_neg (by decide), if_pos c]
          clear h1
          rw [hm]
          go_enter Try.func9, Try.ntmps9
          go_wp2
          go_ret2
          exact ⟨rfl, rfl⟩
        · obtain rfl : s = 0 := by omega
          rw [show moveF 0 5 = (0, 9) from rfl]
          go_enter Try.func9, Try.ntmps9
          go_wp2
          go_ret2
          exact ⟨rfl, rfl⟩
end Go.Proofs.Ytnjipfnajgcibaa.lw
