/-
  The walk of the law DigitCompares, by the rows' lengths.
-/
import Derived.Test.YtgedabhobpcghaaDigitM
namespace Go.Proofs.Ytgedabhobpcghaa.dw
open Go.RowKit Go.Proofs.Ytgedabhobpcghaa.ba Go.Proofs.Ytgedabhobpcghaa.dp
set_option linter.unusedVariables false

set_option maxHeartbeats 1000000 in
theorem cmp_ll (a b : Option Addr) (la ca lb cb : Nat) (Za Zb : Nat → Int) (w : World) (hla : la ≤ ca) (hlb : lb ≤ cb) (hca : ca ≤ maxLen) (hcb : cb ≤ maxLen) (hA : Ints .u8 w a la Za) (hB : Ints .u8 w b lb Zb) (h1 : (la : Int) ≤ 60) (h2 : (lb : Int) ≤ 60) :
    Calls Try.prog 6 #[.slice a la ca, .slice b lb cb] w fun x w' => x = .returned (.bool true) ∧ Below w.heap.size w w' := by
  unfold maxLen at hca hcb
  have hbel : Below w.heap.size w w := Below.refl _ _
  obtain ⟨C, hC, k1, k2, k3, k4, k5⟩ := compares_five a b la ca lb cb Za Zb w (by omega) (by omega) (Ints.shorter hA (by omega)) (Ints.shorter hB (by omega))
  rcases hC with rfl | rfl | rfl
  ·
    go_enter Try.func6, Try.ntmps6
    go_wp2_with fail
    go_quiet (fail)
    replace hbel := bdrew hbel nq
    go_wp2_with (first
      | (go_at_call 17; with_reducible refine (k1 _ hbel).mono ?_; rintro x W1 ⟨rfl, hb1⟩; replace hbel := bthen hbel hb1; clear hb1)
      | (go_at_call 17; with_reducible refine (k2 _ hbel).mono ?_; rintro x W2 ⟨rfl, hb1⟩; replace hbel := bthen hbel hb1; clear hb1)
      | (go_at_call 16; with_reducible refine (k3 _ hbel).mono ?_; rintro x W3 ⟨rfl, hb1⟩; replace hbel := bthen hbel hb1; clear hb1)
      | (go_at_call 16; with_reducible refine (k4 _ hbel).mono ?_; rintro x W4 ⟨rfl, hb1⟩; replace hbel := bthen hbel hb1; clear hb1)
      | (go_at_call 16; with_reducible refine (k5 _ hbel).mono ?_; rintro x W5 ⟨rfl, hb1⟩; replace hbel := bthen hbel hb1; clear hb1)
      | (go_at_call 12; refine (known_any _).mono ?_; rintro x W6 ⟨rfl, hb1⟩; replace hbel := bthen hbel hb1; clear hb1))
    go_ret
    exact ⟨ret_bool (by simp), hbel⟩
  ·
    go_enter Try.func6, Try.ntmps6
    go_wp2_with fail
    go_quiet (fail)
    replace hbel := bdrew hbel nq
    go_wp2_with (first
      | (go_at_call 17; with_reducible refine (k1 _ hbel).mono ?_; rintro x W1 ⟨rfl, hb1⟩; replace hbel := bthen hbel hb1; clear hb1)
      | (go_at_call 17; with_reducible refine (k2 _ hbel).mono ?_; rintro x W2 ⟨rfl, hb1⟩; replace hbel := bthen hbel hb1; clear hb1)
      | (go_at_call 16; with_reducible refine (k3 _ hbel).mono ?_; rintro x W3 ⟨rfl, hb1⟩; replace hbel := bthen hbel hb1; clear hb1)
      | (go_at_call 16; with_reducible refine (k4 _ hbel).mono ?_; rintro x W4 ⟨rfl, hb1⟩; replace hbel := bthen hbel hb1; clear hb1)
      | (go_at_call 16; with_reducible refine (k5 _ hbel).mono ?_; rintro x W5 ⟨rfl, hb1⟩; replace hbel := bthen hbel hb1; clear hb1)
      | (go_at_call 12; refine (known_any _).mono ?_; rintro x W6 ⟨rfl, hb1⟩; replace hbel := bthen hbel hb1; clear hb1))
    go_ret
    exact ⟨ret_bool (by simp), hbel⟩
  ·
    go_enter Try.func6, Try.ntmps6
    go_wp2_with fail
    go_quiet (fail)
    replace hbel := bdrew hbel nq
    go_wp2_with (first
      | (go_at_call 17; with_reducible refine (k1 _ hbel).mono ?_; rintro x W1 ⟨rfl, hb1⟩; replace hbel := bthen hbel hb1; clear hb1)
      | (go_at_call 17; with_reducible refine (k2 _ hbel).mono ?_; rintro x W2 ⟨rfl, hb1⟩; replace hbel := bthen hbel hb1; clear hb1)
      | (go_at_call 16; with_reducible refine (k3 _ hbel).mono ?_; rintro x W3 ⟨rfl, hb1⟩; replace hbel := bthen hbel hb1; clear hb1)
      | (go_at_call 16; with_reducible refine (k4 _ hbel).mono ?_; rintro x W4 ⟨rfl, hb1⟩; replace hbel := bthen hbel hb1; clear hb1)
      | (go_at_call 16; with_reducible refine (k5 _ hbel).mono ?_; rintro x W5 ⟨rfl, hb1⟩; replace hbel := bthen hbel hb1; clear hb1)
      | (go_at_call 12; refine (known_any _).mono ?_; rintro x W6 ⟨rfl, hb1⟩; replace hbel := bthen hbel hb1; clear hb1))
    go_ret
    exact ⟨ret_bool (by simp), hbel⟩

set_option maxHeartbeats 1000000 in
theorem cmp_lh (a b : Option Addr) (la ca lb cb : Nat) (Za Zb : Nat → Int) (w : World) (hla : la ≤ ca) (hlb : lb ≤ cb) (hca : ca ≤ maxLen) (hcb : cb ≤ maxLen) (hA : Ints .u8 w a la Za) (hB : Ints .u8 w b lb Zb) (h1 : (la : Int) ≤ 60) (h2 : 60 < (lb : Int)) :
    Calls Try.prog 6 #[.slice a la ca, .slice b lb cb] w fun x w' => x = .returned (.bool true) ∧ Below w.heap.size w w' := by
  unfold maxLen at hca hcb
  have hbel : Below w.heap.size w w := Below.refl _ _
  obtain ⟨C, hC, k1, k2, k3, k4, k5⟩ := compares_five a b la ca 60 cb Za Zb w (by omega) (by omega) (Ints.shorter hA (by omega)) (Ints.shorter hB (by omega))
  rcases hC with rfl | rfl | rfl
  ·
    go_enter Try.func6, Try.ntmps6
    go_wp2_with fail
    go_quiet (fail)
    replace hbel := bdrew hbel nq
    go_wp2_with (first
      | (go_at_call 17; with_reducible refine (k1 _ hbel).mono ?_; rintro x W1 ⟨rfl, hb1⟩; replace hbel := bthen hbel hb1; clear hb1)
      | (go_at_call 17; with_reducible refine (k2 _ hbel).mono ?_; rintro x W2 ⟨rfl, hb1⟩; replace hbel := bthen hbel hb1; clear hb1)
      | (go_at_call 16; with_reducible refine (k3 _ hbel).mono ?_; rintro x W3 ⟨rfl, hb1⟩; replace hbel := bthen hbel hb1; clear hb1)
      | (go_at_call 16; with_reducible refine (k4 _ hbel).mono ?_; rintro x W4 ⟨rfl, hb1⟩; replace hbel := bthen hbel hb1; clear hb1)
      | (go_at_call 16; with_reducible refine (k5 _ hbel).mono ?_; rintro x W5 ⟨rfl, hb1⟩; replace hbel := bthen hbel hb1; clear hb1)
      | (go_at_call 12; refine (known_any _).mono ?_; rintro x W6 ⟨rfl, hb1⟩; replace hbel := bthen hbel hb1; clear hb1))
    go_ret
    exact ⟨ret_bool (by simp), hbel⟩
  ·
    go_enter Try.func6, Try.ntmps6
    go_wp2_with fail
    go_quiet (fail)
    replace hbel := bdrew hbel nq
    go_wp2_with (first
      | (go_at_call 17; with_reducible refine (k1 _ hbel).mono ?_; rintro x W1 ⟨rfl, hb1⟩; replace hbel := bthen hbel hb1; clear hb1)
      | (go_at_call 17; with_reducible refine (k2 _ hbel).mono ?_; rintro x W2 ⟨rfl, hb1⟩; replace hbel := bthen hbel hb1; clear hb1)
      | (go_at_call 16; with_reducible refine (k3 _ hbel).mono ?_; rintro x W3 ⟨rfl, hb1⟩; replace hbel := bthen hbel hb1; clear hb1)
      | (go_at_call 16; with_reducible refine (k4 _ hbel).mono ?_; rintro x W4 ⟨rfl, hb1⟩; replace hbel := bthen hbel hb1; clear hb1)
      | (go_at_call 16; with_reducible refine (k5 _ hbel).mono ?_; rintro x W5 ⟨rfl, hb1⟩; replace hbel := bthen hbel hb1; clear hb1)
      | (go_at_call 12; refine (known_any _).mono ?_; rintro x W6 ⟨rfl, hb1⟩; replace hbel := bthen hbel hb1; clear hb1))
    go_ret
    exact ⟨ret_bool (by simp), hbel⟩
  ·
    go_enter Try.func6, Try.ntmps6
    go_wp2_with fail
    go_quiet (fail)
    replace hbel := bdrew hbel nq
    go_wp2_with (first
      | (go_at_call 17; with_reducible refine (k1 _ hbel).mono ?_; rintro x W1 ⟨rfl, hb1⟩; replace hbel := bthen hbel hb1; clear hb1)
      | (go_at_call 17; with_reducible refine (k2 _ hbel).mono ?_; rintro x W2 ⟨rfl, hb1⟩; replace hbel := bthen hbel hb1; clear hb1)
      | (go_at_call 16; with_reducible refine (k3 _ hbel).mono ?_; rintro x W3 ⟨rfl, hb1⟩; replace hbel := bthen hbel hb1; clear hb1)
      | (go_at_call 16; with_reducible refine (k4 _ hbel).mono ?_; rintro x W4 ⟨rfl, hb1⟩; replace hbel := bthen hbel hb1; clear hb1)
      | (go_at_call 16; with_reducible refine (k5 _ hbel).mono ?_; rintro x W5 ⟨rfl, hb1⟩; replace hbel := bthen hbel hb1; clear hb1)
      | (go_at_call 12; refine (known_any _).mono ?_; rintro x W6 ⟨rfl, hb1⟩; replace hbel := bthen hbel hb1; clear hb1))
    go_ret
    exact ⟨ret_bool (by simp), hbel⟩

set_option maxHeartbeats 1000000 in
theorem cmp_hl (a b : Option Addr) (la ca lb cb : Nat) (Za Zb : Nat → Int) (w : World) (hla : la ≤ ca) (hlb : lb ≤ cb) (hca : ca ≤ maxLen) (hcb : cb ≤ maxLen) (hA : Ints .u8 w a la Za) (hB : Ints .u8 w b lb Zb) (h1 : 60 < (la : Int)) (h2 : (lb : Int) ≤ 60) :
    Calls Try.prog 6 #[.slice a la ca, .slice b lb cb] w fun x w' => x = .returned (.bool true) ∧ Below w.heap.size w w' := by
  unfold maxLen at hca hcb
  have hbel : Below w.heap.size w w := Below.refl _ _
  obtain ⟨C, hC, k1, k2, k3, k4, k5⟩ := compares_five a b 60 ca lb cb Za Zb w (by omega) (by omega) (Ints.shorter hA (by omega)) (Ints.shorter hB (by omega))
  rcases hC with rfl | rfl | rfl
  ·
    go_enter Try.func6, Try.ntmps6
    go_wp2_with fail
    go_quiet (fail)
    replace hbel := bdrew hbel nq
    go_wp2_with (first
      | (go_at_call 17; with_reducible refine (k1 _ hbel).mono ?_; rintro x W1 ⟨rfl, hb1⟩; replace hbel := bthen hbel hb1; clear hb1)
      | (go_at_call 17; with_reducible refine (k2 _ hbel).mono ?_; rintro x W2 ⟨rfl, hb1⟩; replace hbel := bthen hbel hb1; clear hb1)
      | (go_at_call 16; with_reducible refine (k3 _ hbel).mono ?_; rintro x W3 ⟨rfl, hb1⟩; replace hbel := bthen hbel hb1; clear hb1)
      | (go_at_call 16; with_reducible refine (k4 _ hbel).mono ?_; rintro x W4 ⟨rfl, hb1⟩; replace hbel := bthen hbel hb1; clear hb1)
      | (go_at_call 16; with_reducible refine (k5 _ hbel).mono ?_; rintro x W5 ⟨rfl, hb1⟩; replace hbel := bthen hbel hb1; clear hb1)
      | (go_at_call 12; refine (known_any _).mono ?_; rintro x W6 ⟨rfl, hb1⟩; replace hbel := bthen hbel hb1; clear hb1))
    go_ret
    exact ⟨ret_bool (by simp), hbel⟩
  ·
    go_enter Try.func6, Try.ntmps6
    go_wp2_with fail
    go_quiet (fail)
    replace hbel := bdrew hbel nq
    go_wp2_with (first
      | (go_at_call 17; with_reducible refine (k1 _ hbel).mono ?_; rintro x W1 ⟨rfl, hb1⟩; replace hbel := bthen hbel hb1; clear hb1)
      | (go_at_call 17; with_reducible refine (k2 _ hbel).mono ?_; rintro x W2 ⟨rfl, hb1⟩; replace hbel := bthen hbel hb1; clear hb1)
      | (go_at_call 16; with_reducible refine (k3 _ hbel).mono ?_; rintro x W3 ⟨rfl, hb1⟩; replace hbel := bthen hbel hb1; clear hb1)
      | (go_at_call 16; with_reducible refine (k4 _ hbel).mono ?_; rintro x W4 ⟨rfl, hb1⟩; replace hbel := bthen hbel hb1; clear hb1)
      | (go_at_call 16; with_reducible refine (k5 _ hbel).mono ?_; rintro x W5 ⟨rfl, hb1⟩; replace hbel := bthen hbel hb1; clear hb1)
      | (go_at_call 12; refine (known_any _).mono ?_; rintro x W6 ⟨rfl, hb1⟩; replace hbel := bthen hbel hb1; clear hb1))
    go_ret
    exact ⟨ret_bool (by simp), hbel⟩
  ·
    go_enter Try.func6, Try.ntmps6
    go_wp2_with fail
    go_quiet (fail)
    replace hbel := bdrew hbel nq
    go_wp2_with (first
      | (go_at_call 17; with_reducible refine (k1 _ hbel).mono ?_; rintro x W1 ⟨rfl, hb1⟩; replace hbel := bthen hbel hb1; clear hb1)
      | (go_at_call 17; with_reducible refine (k2 _ hbel).mono ?_; rintro x W2 ⟨rfl, hb1⟩; replace hbel := bthen hbel hb1; clear hb1)
      | (go_at_call 16; with_reducible refine (k3 _ hbel).mono ?_; rintro x W3 ⟨rfl, hb1⟩; replace hbel := bthen hbel hb1; clear hb1)
      | (go_at_call 16; with_reducible refine (k4 _ hbel).mono ?_; rintro x W4 ⟨rfl, hb1⟩; replace hbel := bthen hbel hb1; clear hb1)
      | (go_at_call 16; with_reducible refine (k5 _ hbel).mono ?_; rintro x W5 ⟨rfl, hb1⟩; replace hbel := bthen hbel hb1; clear hb1)
      | (go_at_call 12; refine (known_any _).mono ?_; rintro x W6 ⟨rfl, hb1⟩; replace hbel := bthen hbel hb1; clear hb1))
    go_ret
    exact ⟨ret_bool (by simp), hbel⟩

set_option maxHeartbeats 1000000 in
theorem cmp_hh (a b : Option Addr) (la ca lb cb : Nat) (Za Zb : Nat → Int) (w : World) (hla : la ≤ ca) (hlb : lb ≤ cb) (hca : ca ≤ maxLen) (hcb : cb ≤ maxLen) (hA : Ints .u8 w a la Za) (hB : Ints .u8 w b lb Zb) (h1 : 60 < (la : Int)) (h2 : 60 < (lb : Int)) :
    Calls Try.prog 6 #[.slice a la ca, .slice b lb cb] w fun x w' => x = .returned (.bool true) ∧ Below w.heap.size w w' := by
  unfold maxLen at hca hcb
  have hbel : Below w.heap.size w w := Below.refl _ _
  obtain ⟨C, hC, k1, k2, k3, k4, k5⟩ := compares_five a b 60 ca 60 cb Za Zb w (by omega) (by omega) (Ints.shorter hA (by omega)) (Ints.shorter hB (by omega))
  rcases hC with rfl | rfl | rfl
  ·
    go_enter Try.func6, Try.ntmps6
    go_wp2_with fail
    go_quiet (fail)
    replace hbel := bdrew hbel nq
    go_wp2_with (first
      | (go_at_call 17; with_reducible refine (k1 _ hbel).mono ?_; rintro x W1 ⟨rfl, hb1⟩; replace hbel := bthen hbel hb1; clear hb1)
      | (go_at_call 17; with_reducible refine (k2 _ hbel).mono ?_; rintro x W2 ⟨rfl, hb1⟩; replace hbel := bthen hbel hb1; clear hb1)
      | (go_at_call 16; with_reducible refine (k3 _ hbel).mono ?_; rintro x W3 ⟨rfl, hb1⟩; replace hbel := bthen hbel hb1; clear hb1)
      | (go_at_call 16; with_reducible refine (k4 _ hbel).mono ?_; rintro x W4 ⟨rfl, hb1⟩; replace hbel := bthen hbel hb1; clear hb1)
      | (go_at_call 16; with_reducible refine (k5 _ hbel).mono ?_; rintro x W5 ⟨rfl, hb1⟩; replace hbel := bthen hbel hb1; clear hb1)
      | (go_at_call 12; refine (known_any _).mono ?_; rintro x W6 ⟨rfl, hb1⟩; replace hbel := bthen hbel hb1; clear hb1))
    go_ret
    exact ⟨ret_bool (by simp), hbel⟩
  ·
    go_enter Try.func6, Try.ntmps6
    go_wp2_with fail
    go_quiet (fail)
    replace hbel := bdrew hbel nq
    go_wp2_with (first
      | (go_at_call 17; with_reducible refine (k1 _ hbel).mono ?_; rintro x W1 ⟨rfl, hb1⟩; replace hbel := bthen hbel hb1; clear hb1)
      | (go_at_call 17; with_reducible refine (k2 _ hbel).mono ?_; rintro x W2 ⟨rfl, hb1⟩; replace hbel := bthen hbel hb1; clear hb1)
      | (go_at_call 16; with_reducible refine (k3 _ hbel).mono ?_; rintro x W3 ⟨rfl, hb1⟩; replace hbel := bthen hbel hb1; clear hb1)
      | (go_at_call 16; with_reducible refine (k4 _ hbel).mono ?_; rintro x W4 ⟨rfl, hb1⟩; replace hbel := bthen hbel hb1; clear hb1)
      | (go_at_call 16; with_reducible refine (k5 _ hbel).mono ?_; rintro x W5 ⟨rfl, hb1⟩; replace hbel := bthen hbel hb1; clear hb1)
      | (go_at_call 12; refine (known_any _).mono ?_; rintro x W6 ⟨rfl, hb1⟩; replace hbel := bthen hbel hb1; clear hb1))
    go_ret
    exact ⟨ret_bool (by simp), hbel⟩
  ·
    go_enter Try.func6, Try.ntmps6
    go_wp2_with fail
    go_quiet (fail)
    replace hbel := bdrew hbel nq
    go_wp2_with (first
      | (go_at_call 17; with_reducible refine (k1 _ hbel).mono ?_; rintro x W1 ⟨rfl, hb1⟩; replace hbel := bthen hbel hb1; clear hb1)
      | (go_at_call 17; with_reducible refine (k2 _ hbel).mono ?_; rintro x W2 ⟨rfl, hb1⟩; replace hbel := bthen hbel hb1; clear hb1)
      | (go_at_call 16; with_reducible refine (k3 _ hbel).mono ?_; rintro x W3 ⟨rfl, hb1⟩; replace hbel := bthen hbel hb1; clear hb1)
      | (go_at_call 16; with_reducible refine (k4 _ hbel).mono ?_; rintro x W4 ⟨rfl, hb1⟩; replace hbel := bthen hbel hb1; clear hb1)
      | (go_at_call 16; with_reducible refine (k5 _ hbel).mono ?_; rintro x W5 ⟨rfl, hb1⟩; replace hbel := bthen hbel hb1; clear hb1)
      | (go_at_call 12; refine (known_any _).mono ?_; rintro x W6 ⟨rfl, hb1⟩; replace hbel := bthen hbel hb1; clear hb1))
    go_ret
    exact ⟨ret_bool (by simp), hbel⟩

theorem digitCompares_any (a b : Option Addr) (la ca lb cb : Nat) (Za Zb : Nat → Int) (w : World) (hla : la ≤ ca) (hlb : lb ≤ cb) (hca : ca ≤ maxLen) (hcb : cb ≤ maxLen) (hA : Ints .u8 w a la Za) (hB : Ints .u8 w b lb Zb) :
    Calls Try.prog 6 #[.slice a la ca, .slice b lb cb] w fun x w' => x = .returned (.bool true) ∧ Below w.heap.size w w' := by
  by_cases h1 : (la : Int) ≤ 60
  · by_cases h2 : (lb : Int) ≤ 60
    · exact cmp_ll a b la ca lb cb Za Zb w hla hlb hca hcb hA hB h1 h2
    · exact cmp_lh a b la ca lb cb Za Zb w hla hlb hca hcb hA hB h1 (by omega)
  · by_cases h2 : (lb : Int) ≤ 60
    · exact cmp_hl a b la ca lb cb Za Zb w hla hlb hca hcb hA hB (by omega) h2
    · exact cmp_hh a b la ca lb cb Za Zb w hla hlb hca hcb hA hB (by omega) (by omega)
end Go.Proofs.Ytgedabhobpcghaa.dw
