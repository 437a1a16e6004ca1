/-
  The walks of the functions of package bits: fields.
-/
import Derived.Test.YtploclopllfmdaaRows
import Derived.Test.YtploclopllfmdaaBitsLaws
import Derived.WalkKit
import Derived.WalkSpells
import Derived.WalkLawsBesides
namespace Go.Proofs.Ytploclopllfmdaa.bw
open Go.RowKit Go.Proofs.Ytploclopllfmdaa.bp Go.Proofs.Ytploclopllfmdaa.bl

theorem ret_int {k : IntKind} {a b : Int} (h : a = b) : Ending.returned (.int k a) = .returned (.int k b) := by rw [h]

theorem low_any (n : Int) (w : World) :
    Calls Try.prog 9 #[.int .i64 n] w fun e w' => e = .returned (.int .u64 ((low n.toNat : Nat) : Int)) ∧ w = w' := by
  by_cases h1 : n < 1
  · go_enter Try.func9, Try.ntmps9
    go_wp2
    go_ret
    exact ⟨ret_int (by rw [show n.toNat = 0 from by omega]; rfl), rfl⟩
  · by_cases h2 : 64 ≤ n
    · go_enter Try.func9, Try.ntmps9
      go_wp2
      go_ret
      exact ⟨ret_int (by unfold low; rw [show min n.toNat 64 = 64 from by omega]; rfl), rfl⟩
    · go_enter Try.func9, Try.ntmps9
      go_wp2
      go_ret
      exact ⟨ret_int (low_eq n (by omega) (by omega)), rfl⟩

theorem ret_bool {a b : Bool} (h : a = b) : Ending.returned (.bool a) = .returned (.bool b) := by rw [h]

theorem there_any (lo n : Int) (w : World) (h1 : -9223372036854775808 ≤ lo) (h2 : lo ≤ 9223372036854775807) :
    Calls Try.prog 35 #[.int .i64 lo, .int .i64 n] w fun e w' => e = .returned (.bool (there lo n)) ∧ w = w' := by
  go_enter Try.func35, Try.ntmps35
  go_wp2
  all_goals go_ret
  all_goals exact ⟨ret_bool (by rw [Bool.eq_iff_iff, there_iff]; simp; try omega), rfl⟩

theorem rthere_any (lo n : Int) (w : World) (h1 : -9223372036854775808 ≤ lo) (h2 : lo ≤ 9223372036854775807) :
    Calls Try.prog 36 #[.int .i64 lo, .int .i64 n] w fun e w' => e = .returned (.bool (there lo n)) ∧ w = w' := by
  go_enter Try.func36, Try.ntmps36
  go_wp2
  all_goals go_ret
  all_goals exact ⟨ret_bool (by rw [Bool.eq_iff_iff, there_iff]; simp; try omega), rfl⟩

theorem get_any (w lo n : Int) (wo : World) (w1 : 0 ≤ w) (w2 : w ≤ 18446744073709551615) (h1 : -9223372036854775808 ≤ lo) (h2 : lo ≤ 9223372036854775807) :
    Calls Try.prog 11 #[.int .u64 w, .int .i64 lo, .int .i64 n] wo fun e w' => e = .returned (.int .u64 ((getF w.toNat lo n : Nat) : Int)) ∧ wo = w' := by
  by_cases h : there lo n = true
  · have hb : 0 ≤ lo ∧ 0 ≤ n ∧ lo ≤ 64 ∧ n ≤ 64 - lo := by simpa [there] using h
    obtain ⟨b1, b2, b3, b4⟩ := hb
    go_enter Try.func11, Try.ntmps11
    go_wp2_with (first | (go_at_call 35; refine (there_any _ _ _ h1 h2).mono ?_; rintro e w' ⟨rfl, rfl⟩) | (go_at_call 9; refine (low_any _ _).mono ?_; rintro e w' ⟨rfl, rfl⟩))
    go_ret
    exact ⟨ret_int (get_eq _ _ _ w1 w2 h), rfl⟩
  · have h' : there lo n = false := by simpa using h
    go_enter Try.func11, Try.ntmps11
    go_wp2_with (go_at_call 35; refine (there_any _ _ _ h1 h2).mono ?_; rintro e w' ⟨rfl, rfl⟩)
    go_ret
    exact ⟨ret_int (by simp [getF, h']), rfl⟩

theorem put_any (w lo n v : Int) (wo : World) (w1 : 0 ≤ w) (w2 : w ≤ 18446744073709551615) (v1 : 0 ≤ v) (v2 : v ≤ 18446744073709551615) (h1 : -9223372036854775808 ≤ lo) (h2 : lo ≤ 9223372036854775807) :
    Calls Try.prog 13 #[.int .u64 w, .int .i64 lo, .int .i64 n, .int .u64 v] wo fun e w' => e = .returned (.int .u64 ((putF w.toNat lo n v.toNat : Nat) : Int)) ∧ wo = w' := by
  by_cases h : there lo n = true
  · have hb : 0 ≤ lo ∧ 0 ≤ n ∧ lo ≤ 64 ∧ n ≤ 64 - lo := by simpa [there] using h
    obtain ⟨b1, b2, b3, b4⟩ := hb
    go_enter Try.func13, Try.ntmps13
    go_wp2_with (first | (go_at_call 35; refine (there_any _ _ _ h1 h2).mono ?_; rintro e w' ⟨rfl, rfl⟩) | (go_at_call 9; refine (low_any _ _).mono ?_; rintro e w' ⟨rfl, rfl⟩))
    go_ret
    exact ⟨ret_int (put_eq _ _ _ _ w1 w2 v1 v2 h), rfl⟩
  · have h' : there lo n = false := by simpa using h
    go_enter Try.func13, Try.ntmps13
    go_wp2_with (go_at_call 35; refine (there_any _ _ _ h1 h2).mono ?_; rintro e w' ⟨rfl, rfl⟩)
    go_ret
    exact ⟨ret_int (by simp [putF, h']; omega), rfl⟩
end Go.Proofs.Ytploclopllfmdaa.bw
