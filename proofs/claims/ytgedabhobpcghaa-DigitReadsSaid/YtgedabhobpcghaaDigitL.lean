/-
  The walk of the law DigitReads.
-/
import Derived.Test.YtgedabhobpcghaaDigitJ
namespace Go.Proofs.Ytgedabhobpcghaa.dw
open Go.RowKit Go.Proofs.Ytgedabhobpcghaa.ba Go.Proofs.Ytgedabhobpcghaa.dp
set_option linter.unusedVariables false

/-- The four readings of the first n bytes. -/
theorem reads_four (a : Option Addr) (n cap : Nat) (Z : Nat → Int) (w : World) (hn : n ≤ cap) (hc : cap ≤ 9223372036854775807) (hI : Ints .u8 w a n Z) (hZ : ∀ i, i < n → 0 ≤ Z i ∧ Z i ≤ 255) : ∃ R S : Int × Int × Int,
    (∀ w2, Below w.heap.size w w2 → Calls Try.prog 8 #[.slice a n cap] w2 fun x w' => x = .returned (.tuple #[.int .u64 R.1, .int .i64 R.2.1, .int .i64 R.2.2]) ∧ Below w2.heap.size w2 w') ∧
    (∀ w2, Below w.heap.size w w2 → Calls Try.prog 9 #[.slice a n cap] w2 fun x w' => x = .returned (.tuple #[.int .u64 R.1, .int .i64 R.2.1, .int .i64 R.2.2]) ∧ Below w2.heap.size w2 w') ∧
    (∀ w2, Below w.heap.size w w2 → Calls Try.prog 10 #[.slice a n cap] w2 fun x w' => x = .returned (.tuple #[.int .u64 S.1, .int .i64 S.2.1, .int .i64 S.2.2]) ∧ Below w2.heap.size w2 w') ∧
    (∀ w2, Below w.heap.size w w2 → Calls Try.prog 11 #[.slice a n cap] w2 fun x w' => x = .returned (.tuple #[.int .u64 S.1, .int .i64 S.2.1, .int .i64 S.2.2]) ∧ Below w2.heap.size w2 w') := by
  have hL := Lst.of_ints hI
  have hB : Bytes (listOf Z n) := fun v hv => by
    simp [listOf] at hv
    obtain ⟨i, hi, rfl⟩ := hv
    exact hZ i hi
  have hl := listOf_length Z n
  refine ⟨readO (listOf Z n), readS (listOf Z n), fun w2 hb => ?_, fun w2 hb => ?_, fun w2 hb => ?_, fun w2 hb => ?_⟩
  · have := readO_any a cap (listOf Z n) w2 (by omega) hc hB (hL.below hb); rw [hl] at this; exact this
  · have := rreadO_any a cap (listOf Z n) w2 (by omega) hc hB (hL.below hb); rw [hl] at this; exact this
  · have := readS_any a cap (listOf Z n) w2 (by omega) hc hB (hL.below hb); rw [hl] at this; exact this
  · have := rreadS_any a cap (listOf Z n) w2 (by omega) hc hB (hL.below hb); rw [hl] at this; exact this

set_option maxHeartbeats 1000000 in
theorem digitReads_any (a : Option Addr) (len cap : Nat) (Z : Nat → Int) (w : World) (hlc : len ≤ cap) (hcm : cap ≤ maxLen) (hI : Ints .u8 w a len Z) (hZ : ∀ i, i < len → 0 ≤ Z i ∧ Z i ≤ 255) :
    Calls Try.prog 3 #[.slice a len cap] w fun x w' => x = .returned (.bool true) ∧ Below w.heap.size w w' := by
  unfold maxLen at hcm
  have hbel : Below w.heap.size w w := Below.refl _ _
  by_cases h : (len : Int) ≤ 30
  · have h30 : len ≤ 30 := by omega
    obtain ⟨R, S, h1, h2, h3, h4⟩ := reads_four a len cap Z w (by omega) (by omega) hI (fun i hi => hZ i (by omega))
    go_enter Try.func3, Try.ntmps3
    go_wp2_with (first
      | (go_at_call 8; with_reducible refine (h1 _ hbel).mono ?_; rintro x W1 ⟨rfl, hb1⟩; replace hbel := bthen hbel hb1; clear hb1)
      | (go_at_call 9; with_reducible refine (h2 _ hbel).mono ?_; rintro x W2 ⟨rfl, hb1⟩; replace hbel := bthen hbel hb1; clear hb1)
      | (go_at_call 10; with_reducible refine (h3 _ hbel).mono ?_; rintro x W3 ⟨rfl, hb1⟩; replace hbel := bthen hbel hb1; clear hb1)
      | (go_at_call 11; with_reducible refine (h4 _ hbel).mono ?_; rintro x W4 ⟨rfl, hb1⟩; replace hbel := bthen hbel hb1; clear hb1)
      | (go_at_call 12; refine (known_any _).mono ?_; rintro x W5 ⟨rfl, hb1⟩; replace hbel := bthen hbel hb1; clear hb1))
    go_ret
    exact ⟨ret_bool (by simp), hbel⟩
  · have h' : (30 : Int) < (len : Int) := by omega
    have hI2 := Ints.shorter hI (n := 30) (by omega)
    clear h
    obtain ⟨R, S, h1, h2, h3, h4⟩ := reads_four a 30 cap Z w (by omega) (by omega) hI2 (fun i hi => hZ i (by omega))
    go_enter Try.func3, Try.ntmps3
    go_wp2_with (first
      | (go_at_call 8; with_reducible refine (h1 _ hbel).mono ?_; rintro x W1 ⟨rfl, hb1⟩; replace hbel := bthen hbel hb1; clear hb1)
      | (go_at_call 9; with_reducible refine (h2 _ hbel).mono ?_; rintro x W2 ⟨rfl, hb1⟩; replace hbel := bthen hbel hb1; clear hb1)
      | (go_at_call 10; with_reducible refine (h3 _ hbel).mono ?_; rintro x W3 ⟨rfl, hb1⟩; replace hbel := bthen hbel hb1; clear hb1)
      | (go_at_call 11; with_reducible refine (h4 _ hbel).mono ?_; rintro x W4 ⟨rfl, hb1⟩; replace hbel := bthen hbel hb1; clear hb1)
      | (go_at_call 12; refine (known_any _).mono ?_; rintro x W5 ⟨rfl, hb1⟩; replace hbel := bthen hbel hb1; clear hb1))
    go_ret
    exact ⟨ret_bool (by simp), hbel⟩
end Go.Proofs.Ytgedabhobpcghaa.dw
