/-
  The walks of layer 2: which bytes come first.
-/
import Derived.Test.YtgedabhobpcghaaDigitPlain
import Derived.Test.YtgedabhobpcghaaLst
import Derived.Deep.QuietTactic
import Derived.BigQuiet
namespace Go.Proofs.Ytgedabhobpcghaa.dw
open Go.RowKit Go.Proofs.Ytgedabhobpcghaa.ba Go.Proofs.Ytgedabhobpcghaa.dp
set_option linter.unusedVariables false

theorem drop_nil {l : List Int} {k : Nat} (h : l.length ≤ k) : l.drop k = [] := List.drop_eq_nil_of_le h

set_option maxHeartbeats 1000000 in
theorem less_any (a b : Option Addr) (ca cb : Nat) (x y : List Int) (w : World) (hl : x.length ≤ 9223372036854775807) (hl2 : y.length ≤ 9223372036854775807) (hX : Lst .u8 w a x) (hY : Lst .u8 w b y) :
    Calls Try.prog 17 #[.slice a x.length ca, .slice b y.length cb] w fun e w' => e = .returned (.bool (lessL x y)) ∧ Below w.heap.size w w' := by
  go_enter Try.func17, Try.ntmps17
  go_wp2_with fail
  go_loopw [5] (fun i wr => ∃ (k : Nat), k ≤ y.length ∧ k ≤ x.length ∧ i = .int .i64 k ∧ Hid (lessL x y = lessL (x.drop k) (y.drop k)) ∧ Below w.heap.size w wr) (fun i _ => y.length - (intOf i).toNat)
  case atStart => exact ⟨0, Nat.zero_le _, Nat.zero_le _, rfl, rfl, Below.refl _ _⟩
  case round =>
    obtain ⟨k, hk, hk2, rfl, hs, hbel⟩ := hrel
    by_cases hlt : k < y.length
    · obtain ⟨u, hu⟩ := some_at y hlt
      have dy := drop_at hu
      by_cases hlx : k < x.length
      · obtain ⟨v, hv⟩ := some_at x hlx
        have dx := drop_at hv
        obtain ⟨b1, o1, rfl, c1⟩ := hX.at hv
        obtain ⟨b2, o2, rfl, c2⟩ := hY.at hu
        have d1 := bsome hbel c1 (World.block_lt_of_cell? w _ c1)
        have d2 := bsome hbel c2 (World.block_lt_of_cell? w _ c2)
        have hk0 : (0 : Int) ≤ (k : Int) := Int.natCast_nonneg _
        have hk1 : (k : Int) < (x.length : Int) := by omega
        have hk3 : (k : Int) < (y.length : Int) := by omega
        clear c1 c2
        by_cases he : v = u
        · have hs2 : Hid (lessL x y = lessL (x.drop (k + 1)) (y.drop (k + 1))) := by show _ = _; rw [hs.out, dx, dy, lessL, if_pos he]
          have hne : (v != u) = false := by simp [he]
          clear he dx dy hu hv
          go_wp2_with fail
          go_quiet (fail)
          go_wp2_with fail
          go_roundw
          case rel => exact ⟨k + 1, by omega, by omega, by go_num, hs2, bdrew hbel _⟩
          case measure => simp [intOf]; omega
        · have hs2 : Hid (lessL x y = decide (v < u)) := by show _ = _; rw [hs.out, dx, dy, lessL, if_neg he]
          have hne : (v != u) = true := by simpa using he
          clear he dx dy hu hv
          go_wp2_with fail
          go_quiet (fail)
          go_wp2_with fail
          go_quiet (fail)
          go_wp2_with fail
          go_ret
          exact ⟨ret_bool (by rw [hs2.out]), bdrew (bdrew hbel _) _⟩
      · have hs2 : Hid (lessL x y = true) := by show _ = _; rw [hs.out, drop_nil (by omega), dy]; rfl
        have hge : (x.length : Int) ≤ (k : Int) := by omega
        go_wp2_with fail
        go_ret
        exact ⟨ret_bool (by rw [hs2.out]), hbel⟩
    · have : k = y.length := by omega
      have hs2 : Hid (lessL x y = false) := by show _ = _; rw [hs.out, drop_nil (l := y) (by omega)]; cases x.drop k <;> rfl
      subst this
      go_wp2_with fail
      go_ret
      exact ⟨ret_bool (by rw [hs2.out]), hbel⟩

theorem same_any (a b : Option Addr) (ca cb : Nat) (x y : List Int) (w : World) (hl : x.length ≤ 9223372036854775807) (hl2 : y.length ≤ 9223372036854775807) (hX : Lst .u8 w a x) (hY : Lst .u8 w b y) :
    Calls Try.prog 15 #[.slice a x.length ca, .slice b y.length cb] w fun e w' => e = .returned (.bool (decide (x = y))) ∧ Below w.heap.size w w' := by
  have hs := Lib.hid (same_less x y)
  go_enter Try.func15, Try.ntmps15
  go_wp2_with fail
  refine (less_any a b ca cb x y w hl hl2 hX hY).mono ?_
  rintro e W1 ⟨rfl, hb1⟩
  cases h1 : lessL x y
  · have hs2 : Hid (decide (x = y) = !lessL y x) := by show _ = _; rw [← hs.out, h1]; simp
    go_wp2_with fail
    refine (less_any b a cb ca y x W1 hl2 hl (hY.below hb1) (hX.below hb1)).mono ?_
    rintro e W2 ⟨rfl, hb2⟩
    go_wp2_with fail
    go_ret
    exact ⟨ret_bool (by rw [hs2.out]), bthen hb1 hb2⟩
  · have hs2 : Hid (decide (x = y) = false) := by show _ = _; rw [← hs.out, h1]; simp
    go_wp2_with fail
    go_ret
    exact ⟨ret_bool (by rw [hs2.out]), hb1⟩

set_option maxHeartbeats 1000000 in
theorem compare_any (a b : Option Addr) (ca cb : Nat) (x y : List Int) (w : World) (hl : x.length ≤ 9223372036854775807) (hl2 : y.length ≤ 9223372036854775807) (hX : Lst .u8 w a x) (hY : Lst .u8 w b y) :
    Calls Try.prog 16 #[.slice a x.length ca, .slice b y.length cb] w fun e w' => e = .returned (.int .i64 (cmpL x y)) ∧ Below w.heap.size w w' := by
  by_cases hle : (x.length : Int) ≤ (y.length : Int)
  · have hle' : x.length ≤ y.length := by omega
    go_enter Try.func16, Try.ntmps16
    go_wp2_with fail
    go_loopw [11] (fun i wr => ∃ (k : Nat), k ≤ x.length ∧ i = .int .i64 k ∧ Hid (cmpL x y = cmpL (x.drop k) (y.drop k)) ∧ Below w.heap.size w wr) (fun i _ => x.length - (intOf i).toNat)
    case atStart => exact ⟨0, Nat.zero_le _, rfl, rfl, Below.refl _ _⟩
    case round =>
      obtain ⟨k, hk, rfl, hs, hbel⟩ := hrel
      by_cases hlt : k < x.length
      · obtain ⟨u, hu⟩ := some_at y (i := k) (by omega)
        obtain ⟨v, hv⟩ := some_at x (i := k) (by omega)
        have dy := drop_at hu
        have dx := drop_at hv
        obtain ⟨b1, o1, rfl, c1⟩ := hX.at hv
        obtain ⟨b2, o2, rfl, c2⟩ := hY.at hu
        have d1 := bsome hbel c1 (World.block_lt_of_cell? w _ c1)
        have d2 := bsome hbel c2 (World.block_lt_of_cell? w _ c2)
        have hk0 : (0 : Int) ≤ (k : Int) := Int.natCast_nonneg _
        have hk1 : (k : Int) < (x.length : Int) := by omega
        have hk3 : (k : Int) < (y.length : Int) := by omega
        clear c1 c2
        by_cases h1 : v < u
        · have hs2 : Hid (cmpL x y = -1) := by show _ = _; rw [hs.out, dx, dy, cmpL, if_pos h1]
          clear dx dy hu hv
          go_wp2_with fail
          go_quiet (fail)
          go_wp2_with fail
          go_ret
          exact ⟨ret_int (by rw [hs2.out]), bdrew hbel _⟩
        · by_cases h2 : u < v
          · have hs2 : Hid (cmpL x y = 1) := by show _ = _; rw [hs.out, dx, dy, cmpL, if_neg h1, if_pos h2]
            clear dx dy hu hv
            go_wp2_with fail
            go_quiet (fail)
            go_wp2_with fail
            go_quiet (fail)
            go_wp2_with fail
            go_ret
            exact ⟨ret_int (by rw [hs2.out]), bdrew (bdrew hbel _) _⟩
          · have hs2 : Hid (cmpL x y = cmpL (x.drop (k + 1)) (y.drop (k + 1))) := by show _ = _; rw [hs.out, dx, dy, cmpL, if_neg h1, if_neg h2]
            clear dx dy hu hv
            go_wp2_with fail
            go_quiet (fail)
            go_wp2_with fail
            go_quiet (fail)
            go_wp2_with fail
            go_roundw
            case rel => exact ⟨k + 1, by omega, by go_num, hs2, bdrew hbel _⟩
            case measure => simp [intOf]; omega
      · have hkn : k = x.length := by omega
        subst hkn
        by_cases hlt2 : x.length < y.length
        · obtain ⟨u, hu⟩ := some_at y hlt2
          have hs2 : Hid (cmpL x y = -1) := by show _ = _; rw [hs.out, drop_nil (l := x) (Nat.le_refl _), drop_at hu]; rfl
          have hc : (x.length : Int) < (y.length : Int) := by omega
          clear hu
          go_wp2_with fail
          go_ret
          exact ⟨ret_int (by rw [hs2.out]), hbel⟩
        · have hs2 : Hid (cmpL x y = 0) := by show _ = _; rw [hs.out, drop_nil (l := x) (Nat.le_refl _), drop_nil (l := y) (by omega)]; rfl
          have hc : (x.length : Int) = (y.length : Int) := by omega
          clear hlt2
          go_wp2_with fail
          go_ret
          exact ⟨ret_int (by rw [hs2.out]), hbel⟩
  · have hgt : (y.length : Int) < (x.length : Int) := by omega
    have hgt' : y.length < x.length := by omega
    clear hle
    go_enter Try.func16, Try.ntmps16
    go_wp2_with fail
    go_loopw [11] (fun i wr => ∃ (k : Nat), k ≤ y.length ∧ i = .int .i64 k ∧ Hid (cmpL x y = cmpL (x.drop k) (y.drop k)) ∧ Below w.heap.size w wr) (fun i _ => y.length - (intOf i).toNat)
    case atStart => exact ⟨0, Nat.zero_le _, rfl, rfl, Below.refl _ _⟩
    case round =>
      obtain ⟨k, hk, rfl, hs, hbel⟩ := hrel
      by_cases hlt : k < y.length
      · obtain ⟨u, hu⟩ := some_at y (i := k) (by omega)
        obtain ⟨v, hv⟩ := some_at x (i := k) (by omega)
        have dy := drop_at hu
        have dx := drop_at hv
        obtain ⟨b1, o1, rfl, c1⟩ := hX.at hv
        obtain ⟨b2, o2, rfl, c2⟩ := hY.at hu
        have d1 := bsome hbel c1 (World.block_lt_of_cell? w _ c1)
        have d2 := bsome hbel c2 (World.block_lt_of_cell? w _ c2)
        have hk0 : (0 : Int) ≤ (k : Int) := Int.natCast_nonneg _
        have hk1 : (k : Int) < (x.length : Int) := by omega
        have hk3 : (k : Int) < (y.length : Int) := by omega
        clear c1 c2
        by_cases h1 : v < u
        · have hs2 : Hid (cmpL x y = -1) := by show _ = _; rw [hs.out, dx, dy, cmpL, if_pos h1]
          clear dx dy hu hv
          go_wp2_with fail
          go_quiet (fail)
          go_wp2_with fail
          go_ret
          exact ⟨ret_int (by rw [hs2.out]), bdrew hbel _⟩
        · by_cases h2 : u < v
          · have hs2 : Hid (cmpL x y = 1) := by show _ = _; rw [hs.out, dx, dy, cmpL, if_neg h1, if_pos h2]
            clear dx dy hu hv
            go_wp2_with fail
            go_quiet (fail)
            go_wp2_with fail
            go_quiet (fail)
            go_wp2_with fail
            go_ret
            exact ⟨ret_int (by rw [hs2.out]), bdrew (bdrew hbel _) _⟩
          · have hs2 : Hid (cmpL x y = cmpL (x.drop (k + 1)) (y.drop (k + 1))) := by show _ = _; rw [hs.out, dx, dy, cmpL, if_neg h1, if_neg h2]
            clear dx dy hu hv
            go_wp2_with fail
            go_quiet (fail)
            go_wp2_with fail
            go_quiet (fail)
            go_wp2_with fail
            go_roundw
            case rel => exact ⟨k + 1, by omega, by go_num, hs2, bdrew hbel _⟩
            case measure => simp [intOf]; omega
      · have hkn : k = y.length := by omega
        subst hkn
        obtain ⟨u, hu⟩ := some_at x (i := y.length) (by omega)
        have hs2 : Hid (cmpL x y = 1) := by show _ = _; rw [hs.out, drop_nil (l := y) (Nat.le_refl _), drop_at hu]; rfl
        clear hu
        go_wp2_with fail
        go_ret
        exact ⟨ret_int (by rw [hs2.out]), hbel⟩
end Go.Proofs.Ytgedabhobpcghaa.dw
