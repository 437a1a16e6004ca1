/-
  The walk of the law DigitPuts.
-/
import Derived.Test.YtgedabhobpcghaaDigitP
import Derived.Deep.RegionHeld3
import Derived.Deep.DeepCutAuto
import Derived.Deep.DrawnRows
namespace Go.Proofs.Ytgedabhobpcghaa.dw
open Go.RowKit Go.Proofs.Ytgedabhobpcghaa.ba Go.Proofs.Ytgedabhobpcghaa.dp Go.Proofs.Ytgedabhobpcghaa.bp
set_option linter.unusedVariables false
attribute [local go_sem ↓] Go.wp_at_zero Go.wp_at_succ

theorem bdr {B : Nat} {w w' : World} (h : Below B w w') : Below B w w'.drew := ⟨h.os, h.tape, h.output, h.size, h.block⟩

set_option maxHeartbeats 2000000 in
theorem digitPuts_any (a : Option Addr) (len cap : Nat) (Z : Nat → Int) (w : World) (hlc : len ≤ cap) (hcm : cap ≤ maxLen) (hI : Ints .u64 w a len Z) (hZ : ∀ i, i < len → 0 ≤ Z i ∧ Z i ≤ 18446744073709551615) :
    Calls Try.prog 7 #[.slice a len cap] w fun x w' => x = .returned (.bool true) ∧ Below w.heap.size w w' := by
  unfold maxLen at hcm
  obtain ⟨n, hn1, hn2, hn3⟩ : ∃ n : Nat, n ≤ 30 ∧ n ≤ len ∧ Hid (n = if (len : Int) ≤ 30 then len else 30) := by
    by_cases h : (len : Int) ≤ 30
    · exact ⟨len, by omega, Nat.le_refl _, by show _ = _; rw [if_pos h]⟩
    · exact ⟨30, Nat.le_refl _, by omega, by show _ = _; rw [if_neg h]⟩
  have hL := Lst.of_ints (Ints.shorter hI hn2)
  have hlen := listOf_length Z n
  have hWd : Words (listOf Z n) := fun v hv => by
    simp [listOf] at hv
    obtain ⟨i, hi, rfl⟩ := hv
    exact hZ i (by omega)
  obtain ⟨l, hl⟩ : ∃ l, l = listOf Z n := ⟨_, rfl⟩
  rw [← hl] at hL hlen hWd
  clear hl hI hZ
  obtain ⟨s, t, S, T, k1, k2, k3, k4, k5, k6, k7, k8⟩ := puts_rows a cap l n hlen w (by omega) hWd hL
  have K1 := Lib.hid k1; have K2 := Lib.hid k2; have K3 := Lib.hid k3; have K4 := Lib.hid k4; have K5 := Lib.hid k5; have K6 := Lib.hid k6; have K7 := Lib.hid k7; have K8 := Lib.hid k8
  have HL := Lib.hid hlen
  clear k1 k2 k3 k4 k5 k6 k7 k8 hlen
  go_enter Try.func7, Try.ntmps7
  go_upto_region 1 with fail
  go_cut [0] (fun x wx => x = .slice a n cap ∧ wx = w)
  case first =>
    by_cases h : (len : Int) ≤ 30
    · have e : n = len := by rw [hn3.out, if_pos h]
      subst e
      go_wp2_with fail
      go_meet
      exact ⟨rfl, rfl⟩
    · have e : n = 30 := by rw [hn3.out, if_neg h]
      subst e
      have h' : (30 : Int) < (len : Int) := by omega
      clear h
      go_wp2_with fail
      go_meet
      exact ⟨rfl, rfl⟩
  case rest =>
    obtain ⟨rfl, rfl⟩ := hcut
    go_wp2_with fail
    go_loopw [3] (fun i wr => ∃ k : Nat, k ≤ n ∧ i = .int .i64 k ∧ Below wc.heap.size wc wr) (fun i _ => n - (intOf i).toNat)
    case atStart => exact ⟨0, Nat.zero_le _, rfl, Below.refl _ _⟩
    case round =>
      obtain ⟨k, hk, rfl, hbel⟩ := hrel
      by_cases hlt : k < n
      · obtain ⟨x, hx⟩ := some_at l (i := k) (by rw [HL.out]; exact hlt)
        have hxb := hWd x (List.mem_of_getElem? hx)
        obtain ⟨X, rfl⟩ := Int.eq_ofNat_of_zero_le hxb.1
        obtain ⟨b, off, rfl, c0⟩ := hL.at hx
        have d0 := bsome hbel c0 (World.block_lt_of_cell? _ _ c0)
        obtain ⟨s1, t1, j1, j2, j3, j4⟩ := puts_four X (by omega) wc _ _ c0
        have J1 := Lib.hid j1; have J2 := Lib.hid j2; have J3 := Lib.hid j3; have J4 := Lib.hid j4
        have hk0 : (0 : Int) ≤ (k : Int) := Int.natCast_nonneg _
        have hk1 : (k : Int) < (n : Int) := by omega
        have hf1 : ((s1 : Int) != (s1 : Int)) = false := by simp
        have hf2 : ((t1 : Int) != (t1 : Int)) = false := by simp
        clear j1 j2 j3 j4 c0 hx
        go_upto_region 5 with fail
        go_cut [40] (fun x wx => x = .bool false ∧ Below wc.heap.size wc wx)
        case first =>
          go_region_held3 (fun w' => w'.cell? ⟨b, off + k, none⟩ = some (.int .u64 X) ∧ Below wc.heap.size wc w')
            (first | (refine ⟨by assumption, by assumption⟩) | (refine ⟨by assumption, bdr hbel⟩) | go_keep)
            (first
              | (go_at_call 18; ((with_reducible refine (J1.out _).mono ?_); rintro x W1 ⟨rfl, rfl⟩))
              | (go_at_call 19; ((with_reducible refine (J2.out _ (by first | assumption | exact bdr hbel)).mono ?_); rintro x W1 ⟨a1, c1, rfl, hcell1, hb1⟩))
              | (go_at_call 20; ((with_reducible refine (J3.out _).mono ?_); rintro x W1 ⟨rfl, rfl⟩))
              | (go_at_call 21; ((with_reducible refine (J4.out _ (by first | assumption | exact bdr hbel)).mono ?_); rintro x W2 ⟨a2, c2, rfl, hcell2, hb2⟩)))
          all_goals
            go_wp2_with fail
            go_meet
            exact ⟨rfl, hb2⟩
        case rest =>
          obtain ⟨rfl, hb⟩ := hcut
          go_wp2_with fail
          go_roundw
          case rel => exact ⟨k + 1, by omega, by go_num, hb⟩
          case measure => simp [intOf]; omega
      · have : k = n := by omega
        subst this
        go_wp2_with (first
          | (go_at_call 12; refine (known_any _).mono ?_; rintro x W5 ⟨rfl, hb1⟩; replace hbel := bthen hbel hb1; clear hb1)
          | (go_at_call 13; ((with_reducible refine (K1.out _ hbel).mono ?_); rintro x W1 ⟨a1, c1, rfl, hS1, hb1⟩; replace hbel := bthen hbel hb1; clear hb1))
          | (go_at_call 14; ((with_reducible refine (K3.out _ hbel).mono ?_); rintro x W2 ⟨a2, c2, rfl, hS2, hb1⟩; replace hbel := bthen hbel hb1; clear hb1))
          | (go_at_call 22; ((with_reducible refine (K2.out _ hbel).mono ?_); rintro x W3 ⟨a3, c3, rfl, hS3, hb1⟩; replace hbel := bthen hbel hb1; replace hS1 := K7.out _ _ _ hS1 hb1; clear hb1))
          | (go_at_call 22; ((with_reducible refine (K4.out _ hbel).mono ?_); rintro x W4 ⟨a4, c4, rfl, hS4, hb1⟩; replace hbel := bthen hbel hb1; replace hS2 := K8.out _ _ _ hS2 hb1; clear hb1))
          | (go_at_call 15; ((with_reducible refine (K5.out _ _ _ _ _ hS1 hS3).mono ?_); rintro x W6 ⟨rfl, hb1⟩; replace hbel := bthen hbel hb1; clear hb1))
          | (go_at_call 15; ((with_reducible refine (K6.out _ _ _ _ _ hS2 hS4).mono ?_); rintro x W7 ⟨rfl, hb1⟩; replace hbel := bthen hbel hb1; clear hb1)))
        go_ret
        exact ⟨ret_bool (by simp), hbel⟩
end Go.Proofs.Ytgedabhobpcghaa.dw
