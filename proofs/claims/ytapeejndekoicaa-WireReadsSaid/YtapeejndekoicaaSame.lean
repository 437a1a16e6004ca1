/-
  The walks of layer 2 that other layers want: the same bytes?
-/
import Derived.Test.YtapeejndekoicaaDigitPlain
import Derived.Test.YtapeejndekoicaaLst
import Derived.Deep.QuietTactic
import Derived.BigQuiet
namespace Go.Proofs.Ytapeejndekoicaa.dw
open Go.RowKit Go.Proofs.Ytapeejndekoicaa.ba Go.Proofs.Ytapeejndekoicaa.dp
set_option linter.unusedVariables false

theorem drop_nil {l : List Int} {k : Nat} (h : l.length ≤ k) : l.drop k = [] := List.drop_eq_nil_of_le h

set_option maxHeartbeats 1000000 in
theorem less_any (a b : Option Addr) (ca cb : Nat) (x y : List Int) (w : World) (hl : x.length ≤ 9223372036854775807) (hl2 : y.length ≤ 9223372036854775807) (hX : Lst .u8 w a x) (hY : Lst .u8 w b y) :
    Calls Try.prog 34 #[.slice a x.length ca, .slice b y.length cb] w fun e w' => e = .returned (.bool (lessL x y)) ∧ Below w.heap.size w w' := by
  go_enter Try.func34, Try.ntmps34
  go_wp2_with fail
  go_loopw [5] (fun i wr => ∃ (k : Nat), k ≤ y.length ∧ k ≤ x.length ∧ i = .int .i64 k ∧ Hid (lessL x y = lessL (x.drop k) (y.drop k)) ∧ Below w.heap.size w wr) (fun i _ => y.length - (intOf i).toNat)
  case atStart => exact ⟨0, Nat.zero_le _, Nat.zero_le _, rfl, rfl, Below.refl _ _⟩
  case round =>
    obtain ⟨k, hk, hk2, rfl, hs, hbel⟩ := hrel
    by_cases hlt : k < y.length
    · obtain ⟨u, hu⟩ := some_at y hlt
      have dy := drop_at hu
      by_cases hlx : k < x.length
      · obtain ⟨v, hv⟩ := some_at x hlx
        have dx := drop_at hv
        obtain ⟨b1, o1, rfl, c1⟩ := hX.at hv
        obtain ⟨b2, o2, rfl, c2⟩ := hY.at hu
        have d1 := bsome hbel c1 (World.block_lt_of_cell? w _ c1)
        have d2 := bsome hbel c2 (World.block_lt_of_cell? w _ c2)
        have hk0 : (0 : Int) ≤ (k : Int) := Int.natCast_nonneg _
        have hk1 : (k : Int) < (x.length : Int) := by omega
        have hk3 : (k : Int) < (y.length : Int) := by omega
        clear c1 c2
        by_cases he : v = u
        · have hs2 : Hid (lessL x y = lessL (x.drop (k + 1)) (y.drop (k + 1))) := by show _ = _; rw [hs.out, dx, dy, lessL, if_pos he]
          have hne : (v != u) = false := by simp [he]
          clear he dx dy hu hv
          go_wp2_with fail
          go_quiet (fail)
          go_wp2_with fail
          go_roundw
          case rel => exact ⟨k + 1, by omega, by omega, by go_num, hs2, bdrew hbel _⟩
          case measure => simp [intOf]; omega
        · have hs2 : Hid (lessL x y = decide (v < u)) := by show _ = _; rw [hs.out, dx, dy, lessL, if_neg he]
          have hne : (v != u) = true := by simpa using he
          clear he dx dy hu hv
          go_wp2_with fail
          go_quiet (fail)
          go_wp2_with fail
          go_quiet (fail)
          go_wp2_with fail
          go_ret
          exact ⟨ret_bool (by rw [hs2.out]), bdrew (bdrew hbel _) _⟩
      · have hs2 : Hid (lessL x y = true) := by show _ = _; rw [hs.out, drop_nil (by omega), dy]; rfl
        have hge : (x.length : Int) ≤ (k : Int) := by omega
        go_wp2_with fail
        go_ret
        exact ⟨ret_bool (by rw [hs2.out]), hbel⟩
    · have : k = y.length := by omega
      have hs2 : Hid (lessL x y = false) := by show _ = _; rw [hs.out, drop_nil (l := y) (by omega)]; cases x.drop k <;> rfl
      subst this
      go_wp2_with fail
      go_ret
      exact ⟨ret_bool (by rw [hs2.out]), hbel⟩

theorem same_any (a b : Option Addr) (ca cb : Nat) (x y : List Int) (w : World) (hl : x.length ≤ 9223372036854775807) (hl2 : y.length ≤ 9223372036854775807) (hX : Lst .u8 w a x) (hY : Lst .u8 w b y) :
    Calls Try.prog 15 #[.slice a x.length ca, .slice b y.length cb] w fun e w' => e = .returned (.bool (decide (x = y))) ∧ Below w.heap.size w w' := by
  have hs := Lib.hid (same_less x y)
  go_enter Try.func15, Try.ntmps15
  go_wp2_with fail
  refine (less_any a b ca cb x y w hl hl2 hX hY).mono ?_
  rintro e W1 ⟨rfl, hb1⟩
  cases h1 : lessL x y
  · have hs2 : Hid (decide (x = y) = !lessL y x) := by show _ = _; rw [← hs.out, h1]; simp
    go_wp2_with fail
    refine (less_any b a cb ca y x W1 hl2 hl (hY.below hb1) (hX.below hb1)).mono ?_
    rintro e W2 ⟨rfl, hb2⟩
    go_wp2_with fail
    go_ret
    exact ⟨ret_bool (by rw [hs2.out]), bthen hb1 hb2⟩
  · have hs2 : Hid (decide (x = y) = false) := by show _ = _; rw [← hs.out, h1]; simp
    go_wp2_with fail
    go_ret
    exact ⟨ret_bool (by rw [hs2.out]), hb1⟩
end Go.Proofs.Ytapeejndekoicaa.dw
