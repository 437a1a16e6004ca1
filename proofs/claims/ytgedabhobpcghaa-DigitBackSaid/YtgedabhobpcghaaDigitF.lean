/-
  The walks of layer 2: numbers as small bytes.
-/
import Derived.Test.YtgedabhobpcghaaDigitPlainD
import Derived.Test.YtgedabhobpcghaaDigitD
import Derived.Laws.BitsAllLaws
namespace Go.Proofs.Ytgedabhobpcghaa.dw
open Go.RowKit Go.Proofs.Ytgedabhobpcghaa.ba Go.Proofs.Ytgedabhobpcghaa.dp
set_option linter.unusedVariables false

theorem info5 : (Try.prog.info? 5).map (fun i => (i.zero, i.size, i.bytes)) = some (some (.int .u8 0), 1, 1) := by kernel_rfl

set_option maxRecDepth 100000 in
theorem or128_all : ∀ y : Fin 256, y.val ||| 128 = y.val % 128 + 128 := by decide
theorem or128 (m : Nat) : bits .or .u8 ((m : Int) % 256) 128 = ((m % 128 + 128 : Nat) : Int) := by
  have h := u8_or_nat (m % 256) 128 (by omega) (by omega)
  have h2 := or128_all ⟨m % 256, by omega⟩
  simp only at h2
  rw [h2] at h
  rw [show ((m : Int) % 256) = ((m % 256 : Nat) : Int) from by omega]
  rw [show (128 : Int) = ((128 : Nat) : Int) from rfl, h]
  omega

/-- Bytes of the call's own, handed back. -/
def OwnB (base : Nat) (w w' : World) (l : List Int) (x : Ending) : Prop :=
  ∃ a cap, x = .returned (.slice a l.length cap) ∧ w'.ownsRow base 5 1 (.slice a l.length cap) l.length (l.map (Value.int .u8)) ∧ Below base w w'

set_option maxHeartbeats 1000000 in
set_option maxRecDepth 20000 in
theorem small1_any (base : Nat) (v : Value) (l : List Int) (n : Nat) (w : World) (hb : base ≤ w.heap.size) (hl : l.length ≤ 1000000) (hn : n < 18446744073709551616) (hown : w.ownsRow base 5 1 v l.length (l.map (Value.int .u8))) :
    Calls Try.prog 25 #[v, .int .u64 n] w fun x w' => OwnB base w w' (l ++ smaL n) x := by
  obtain ⟨i0, hi, hz0, hz1, hz2⟩ := info_parts info5
  go_enter Try.func25, Try.ntmps25
  go_wp2_with fail
  go_loopg [0, 1] 10 (fun g o i wr => ∃ (m : Nat) (l' : List Int), m < 18446744073709551616 ∧ m < 128 ^ g ∧ 1 ≤ g ∧ g ≤ 10 ∧ i = .int .u64 m ∧ l'.length + g ≤ l.length + 10 ∧ wr.ownsRow base 5 1 o l'.length (l'.map (Value.int .u8)) ∧ Hid (l ++ smaL n = l' ++ smaK g m) ∧ Below base w wr)
  case atStart => exact ⟨n, l, hn, by omega, by omega, Nat.le_refl _, rfl, Nat.le_refl _, hown, rfl, Below.refl _ _⟩
  case round =>
    obtain ⟨m, l', hm, hmg, hg1, hg10, rfl, hll, hown', hr, hbel⟩ := hrel
    have hz := hbel.size
    cases gk with
    | zero => omega
    | succ g =>
      by_cases hlt : m < 128
      · have hs2 : Hid (smaK (g + 1) m = [(m : Int)]) := by show _ = _; rw [smaK, if_pos hlt]
        have hlt' : (m : Int) < 128 := by omega
        clear hmg
        go_wp2_with (at_builtin; refine wpList_append_one rfl _ _ 22 rfl base 5 i0 (.int .u8 0) 1 Try.underlying22 hi hz0 hz1 hz2 rfl u0 _ _ rfl hown' _ rfl _ rfl (by omega) (by omega) (by omega) ?_; intro v2 W2 hown2 hg2)
        obtain ⟨a2, c2, rfl, _, _⟩ := own_form hown2
        go_ret
        refine ⟨a2, c2, ?_, ?_, below_append hbel (by omega) hown' (Nat.le_refl _) hg2⟩
        · rw [hr.out, hs2.out]; simp
        · rw [hr.out, hs2.out]
          simpa using hown2
      · have hs2 : Hid (smaK (g + 1) m = ((m % 128 + 128 : Nat) : Int) :: smaK g (m / 128)) := by show _ = _; rw [smaK, if_neg hlt]
        have hge : (128 : Int) ≤ (m : Int) := by omega
        go_wp2_with (at_builtin; refine wpList_append_one rfl _ _ 22 rfl base 5 i0 (.int .u8 0) 1 Try.underlying22 hi hz0 hz1 hz2 rfl u0 _ _ rfl hown' _ rfl _ rfl (by omega) (by omega) (by omega) ?_; intro v2 W2 hown2 hg2)
        go_roundg g
        case measure => omega
        case rel =>
          refine ⟨m / 128, l' ++ [((m % 128 + 128 : Nat) : Int)], by omega, ?_, ?_, by omega, by rw [Int.natCast_ediv]; rfl, by simp; omega, ?_, ?_, below_append hbel (by omega) hown' (Nat.le_refl _) hg2⟩
          · rw [Nat.pow_succ] at hmg; omega
          · rcases Nat.eq_zero_or_pos g with h | h
            · subst h; simp at hmg; omega
            · exact h
          · rw [or128 m] at hown2
            simpa using hown2
          · show _ = _
            rw [hr.out, hs2.out]; simp
end Go.Proofs.Ytgedabhobpcghaa.dw
