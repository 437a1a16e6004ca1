/-
  The law DigitOrder, over whole numbers.
-/
import Derived.Test.YtgedabhobpcghaaDigitT
import Derived.Test.YtgedabhobpcghaaDigitR
namespace Go.Proofs.Ytgedabhobpcghaa.dw
open Go.RowKit Go.Proofs.Ytgedabhobpcghaa.ba
theorem digitOrder_int (A B : Int) (hA0 : 0 ≤ A) (hA : A ≤ 18446744073709551615) (hB0 : 0 ≤ B) (hB : B ≤ 18446744073709551615) (a b : Option Addr) (la ca lb cb : Nat) (Za Zb : Nat → Int) (w : World) (hlc : la ≤ ca) (hcm : ca ≤ maxLen) (hlc2 : lb ≤ cb) (hcm2 : cb ≤ maxLen) (hI : Ints .u64 w a la Za) (hI2 : Ints .u64 w b lb Zb)
    (hZ : ∀ i, i < la → 0 ≤ Za i ∧ Za i ≤ 18446744073709551615) (hZ2 : ∀ i, i < lb → 0 ≤ Zb i ∧ Zb i ≤ 18446744073709551615) :
    Calls Try.prog 5 #[.int .u64 A, .int .u64 B, .slice a la ca, .slice b lb cb] w fun x w' => x = .returned (.bool true) ∧ Below w.heap.size w w' := by
  obtain ⟨a', rfl⟩ := Int.eq_ofNat_of_zero_le hA0
  obtain ⟨b', rfl⟩ := Int.eq_ofNat_of_zero_le hB0
  exact digitOrder_any a' b' (by omega) (by omega) a b la ca lb cb Za Zb w hlc hcm hlc2 hcm2 hI hI2 hZ hZ2
end Go.Proofs.Ytgedabhobpcghaa.dw
