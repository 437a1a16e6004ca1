/-
  The walks of layer 2: numbers as ordered bytes.
-/
import Derived.Test.YtgedabhobpcghaaDigitPlainE
import Derived.Test.YtgedabhobpcghaaBitsTop
import Derived.Test.YtgedabhobpcghaaDigitG
namespace Go.Proofs.Ytgedabhobpcghaa.dw
open Go.RowKit Go.Proofs.Ytgedabhobpcghaa.ba Go.Proofs.Ytgedabhobpcghaa.dp Go.Proofs.Ytgedabhobpcghaa.bp
set_option linter.unusedVariables false

theorem sizeO_any (n : Nat) (w : World) (hn : n < 18446744073709551616) : Calls Try.prog 18 #[.int .u64 n] w fun x w' => x = .returned (.int .i64 (1 + (sizeO n : Int))) ∧ w = w' := by
  obtain ⟨h1, h2⟩ := topW_size n hn
  have hb := top_bounds (fun i => n.testBit i) 64
  obtain ⟨T, hT⟩ : ∃ T, T = topW n := ⟨_, rfl⟩
  have b1 : -1 ≤ T := by rw [hT]; exact hb.1
  have b2 : T < 64 := by rw [hT]; exact hb.2
  have ht := bw.top_any (n : Int) w (by omega) (by omega)
  rw [Int.toNat_natCast, ← hT] at ht
  rw [← hT] at h1
  have h1' := Lib.hid h1
  clear h1 hb hT
  go_enter Try.func18, Try.ntmps18
  go_wp2_with (go_at_call 26; refine ht.mono ?_; rintro x W1 ⟨rfl, rfl⟩)
  go_ret
  exact ⟨ret_int (by rw [← h1'.out]), rfl⟩

set_option maxHeartbeats 1000000 in
set_option maxRecDepth 20000 in
theorem ord1_any (base : Nat) (v : Value) (l : List Int) (n : Nat) (w : World) (hb : base ≤ w.heap.size) (hl : l.length ≤ 1000000) (hn : n < 18446744073709551616) (hown : w.ownsRow base 5 1 v l.length (l.map (Value.int .u8))) :
    Calls Try.prog 24 #[v, .int .u64 n] w fun x w' => OwnB base w w' (l ++ ordL n) x := by
  obtain ⟨i0, hi, hz0, hz1, hz2⟩ := info_parts info5
  obtain ⟨s, hs⟩ : ∃ s, s = sizeO n := ⟨_, rfl⟩
  have hs8 : s ≤ 8 := by rw [hs]; exact (topW_size n hn).2
  have hso := sizeO_any n w hn
  rw [← hs] at hso
  have hord : Hid (ordL n = (s : Int) :: beB n s) := by show _ = _; rw [hs]; rfl
  clear hs
  go_enter Try.func24, Try.ntmps24
  go_wp2_with (first
    | (go_at_call 18; refine hso.mono ?_; rintro x W1 ⟨rfl, rfl⟩)
    | (at_builtin; refine wpList_append_one rfl _ _ 22 rfl base 5 i0 (.int .u8 0) 1 Try.underlying22 hi hz0 hz1 hz2 rfl v _ _ rfl hown _ rfl _ rfl (by omega) (by omega) (by omega) ?_; intro v2 W2 hown2 hg2))
  rw [show (1 + (s : Int) - 1) = s from by omega] at hown2
  go_loopw [0, 6] (fun o i wr => ∃ (k : Nat) (l' : List Int), k ≤ s ∧ i = .int .i64 ((k : Int) - 1) ∧ l'.length + k = l.length + 1 + s ∧ wr.ownsRow base 5 1 o l'.length (l'.map (Value.int .u8)) ∧ Hid (l ++ ordL n = l' ++ beB n k) ∧ Below base w wr) (fun _ i _ => (intOf i + 1).toNat)
  case atStart => exact ⟨s, l ++ [(s : Int)], Nat.le_refl _, by go_num, by first | (simp; done) | (simp; omega), by simpa using hown2, by show _ = _; rw [hord.out]; simp, below_append (Below.refl _ _) (by omega) hown (Nat.le_refl _) hg2⟩
  case round =>
    obtain ⟨k, l', hk, hi6, hll, hown', hr, hbel⟩ := hrel
    have hz := hbel.size
    cases k with
    | zero =>
      rw [show ((0 : Nat) : Int) - 1 = -1 from rfl] at hi6
      subst hi6
      obtain ⟨a2, c2, hv, _, _⟩ := own_form hown'
      subst hv
      go_wp2_with fail
      go_ret
      have e : l ++ ordL n = l' := by rw [hr.out]; simp [beB]
      rw [e]
      exact ⟨a2, c2, rfl, hown', hbel⟩
    | succ j =>
      rw [show ((j + 1 : Nat) : Int) - 1 = (j : Int) from by omega] at hi6
      subst hi6
      have hj : (j : Int) ≤ 7 := by omega
      go_wp2_with (at_builtin; refine wpList_append_one rfl _ _ 22 rfl base 5 i0 (.int .u8 0) 1 Try.underlying22 hi hz0 hz1 hz2 rfl u0 _ _ rfl hown' _ rfl _ rfl (by omega) (by omega) (by omega) ?_; intro v3 W3 hown3 hg3)
      go_roundw
      case rel =>
        refine ⟨j, l' ++ [((n / 256 ^ j % 256 : Nat) : Int)], by omega, by go_num, by simp; omega, ?_, ?_, below_append hbel (by omega) hown' (Nat.le_refl _) hg3⟩
        · rw [show ((n : Int) / 2 ^ (8 * j) % 256) = ((n / 256 ^ j % 256 : Nat) : Int) from by rw [pow_256]; simp] at hown3
          simpa using hown3
        · show _ = _
          rw [hr.out, beB]; simp
      case measure => simp [intOf]
end Go.Proofs.Ytgedabhobpcghaa.dw
