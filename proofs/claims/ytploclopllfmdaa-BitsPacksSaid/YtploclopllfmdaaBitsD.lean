/-
  The walks of the functions of the document's answer for words: signed numbers, turned words, ones.
-/
import Derived.Test.YtploclopllfmdaaRows
import Derived.Test.YtploclopllfmdaaBitsLawsB
import Derived.Test.YtploclopllfmdaaBitsB
import Derived.WalkKit
import Derived.Lib.Hide
import Derived.WalkSpells
import Derived.WalkLawsBesides
namespace Go.Proofs.Ytploclopllfmdaa.bw
open Go.RowKit Go.Proofs.Ytploclopllfmdaa.bp Go.Proofs.Ytploclopllfmdaa.bl

theorem rzig_any (n : Int) (w : World) (h1 : -9223372036854775808 ≤ n) (h2 : n ≤ 9223372036854775807) :
    Calls Try.prog 20 #[.int .i64 n] w fun e w' => e = .returned (.int .u64 ((zig n : Nat) : Int)) ∧ w = w' := by
  by_cases h : 0 ≤ n
  · go_enter Try.func20, Try.ntmps20
    go_wp2
    go_ret
    exact ⟨ret_int (by unfold zig; rw [if_pos h]; omega), rfl⟩
  · go_enter Try.func20, Try.ntmps20
    go_wp2
    go_ret
    exact ⟨ret_int (by unfold zig; rw [if_neg (by omega)]; omega), rfl⟩

theorem getF_zero (w : Nat) (n : Int) (h0 : 0 ≤ n) (h : n ≤ 64) : getF w 0 n = w % 2 ^ n.toNat := by
  unfold getF
  rw [if_pos ((there_iff _ _).2 (by omega))]
  simp

theorem low_small (n : Int) (h : n ≤ 63) : low n.toNat ≤ 9223372036854775807 ∧ ((low n.toNat : Nat) : Int) = 2 ^ n.toNat - 1 := by
  unfold low
  rw [show min n.toNat 64 = n.toNat from by omega]
  have h1 : 2 ^ n.toNat ≤ 2 ^ 63 := Nat.pow_le_pow_right (by omega) (by omega)
  have e : (2 : Nat) ^ 63 = 9223372036854775808 := by decide
  have hp := Nat.two_pow_pos n.toNat
  refine ⟨by omega, ?_⟩
  rw [two_pow_cast]
  omega

theorem getF_small (w : Nat) (n : Int) (h0 : 0 ≤ n) (h : n ≤ 63) : getF w 0 n ≤ 9223372036854775807 := by
  rw [getF_zero w n h0 (by omega)]
  have h1 : 2 ^ n.toNat ≤ 2 ^ 63 := Nat.pow_le_pow_right (by omega) (by omega)
  have e : (2 : Nat) ^ 63 = 9223372036854775808 := by decide
  have hp := Nat.mod_lt w (Nat.two_pow_pos n.toNat)
  omega

theorem sign_yes (w : Nat) (n m : Int) (h1 : 1 ≤ n) (hm : m = min n 64 - 1) (k : Nat) (hk : k = m.toNat) (hb : w.testBit k = true) : ((getF w 0 m : Nat) : Int) - ((low k : Nat) : Int) - 1 = sign w n := by
  subst hk
  have hl := (low_small m (by omega)).2
  rw [getF_zero w m (by omega) (by omega), hl]
  unfold sign
  have e : min n.toNat 64 - 1 = m.toNat := by omega
  rw [if_neg (by omega), e, if_pos hb]
  omega

theorem sign_no (w : Nat) (n m : Int) (h1 : 1 ≤ n) (hm : m = min n 64 - 1) (k : Nat) (hk : k = m.toNat) (hb : w.testBit k = false) : ((getF w 0 m : Nat) : Int) = sign w n := by
  subst hk
  rw [getF_zero w m (by omega) (by omega)]
  unfold sign
  have e : min n.toNat 64 - 1 = m.toNat := by omega
  rw [if_neg (by omega), e, if_neg (by simp [hb])]

theorem rsign_any (x n : Int) (w : World) (w1 : 0 ≤ x) (w2 : x ≤ 18446744073709551615) :
    Calls Try.prog 18 #[.int .u64 x, .int .i64 n] w fun e w' => e = .returned (.int .i64 (sign x.toNat n)) ∧ Below w.heap.size w w' := by
  by_cases h1 : n < 1
  · go_enter Try.func18, Try.ntmps18
    go_wp2
    go_ret
    exact ⟨ret_int (by unfold sign; rw [if_pos h1]), Below.refl _ _⟩
  · by_cases h2 : 64 < n
    · have g1 := getF_small x.toNat 63 (by omega) (by omega)
      have g2 : low 63 ≤ 9223372036854775807 := (low_small 63 (by omega)).1
      cases hb : x.toNat.testBit 63
      · have H := Lib.hid (sign_no x.toNat n 63 (by omega) (by omega) 63 (by omega) hb)
        go_enter Try.func18, Try.ntmps18
        go_wp2_with (first | (go_at_call 12; refine (rget_any _ _ _ _ w1 w2 (by omega) (by omega)).mono ?_; rintro e w' ⟨rfl, hb1⟩) | (go_at_call 37; refine (bit_any _ _ _ w1 w2 (by omega) (by omega)).mono ?_; rintro e w'' ⟨rfl, rfl⟩))
        go_ret
        exact ⟨ret_int H.out, hb1⟩
      · have H := Lib.hid (sign_yes x.toNat n 63 (by omega) (by omega) 63 (by omega) hb)
        go_enter Try.func18, Try.ntmps18
        go_wp2_with (first | (go_at_call 12; refine (rget_any _ _ _ _ w1 w2 (by omega) (by omega)).mono ?_; rintro e w' ⟨rfl, hb1⟩) | (go_at_call 37; refine (bit_any _ _ _ w1 w2 (by omega) (by omega)).mono ?_; rintro e w'' ⟨rfl, rfl⟩) | (go_at_call 10; refine (rlow_any _ _).mono ?_; rintro e w'' ⟨rfl, hb2⟩))
        go_ret
        exact ⟨ret_int H.out, hb1.trans (hb2.mono hb1.size)⟩
    · obtain ⟨N, rfl⟩ := Int.eq_ofNat_of_zero_le (by omega : 0 ≤ n)
      have g1 := getF_small x.toNat ((N : Int) - 1) (by omega) (by omega)
      have g2 : low (N - 1) ≤ 9223372036854775807 := by have := (low_small ((N : Int) - 1) (by omega)).1; rwa [show ((N : Int) - 1).toNat = N - 1 from by omega] at this
      cases hb : x.toNat.testBit (N - 1)
      · have H := Lib.hid (sign_no x.toNat (N : Int) ((N : Int) - 1) (by omega) (by omega) (N - 1) (by omega) hb)
        go_enter Try.func18, Try.ntmps18
        go_wp2_with (first | (go_at_call 12; refine (rget_any _ _ _ _ w1 w2 (by omega) (by omega)).mono ?_; rintro e w' ⟨rfl, hb1⟩) | (go_at_call 37; refine (bit_any _ _ _ w1 w2 (by omega) (by omega)).mono ?_; rintro e w'' ⟨rfl, rfl⟩))
        go_ret
        exact ⟨ret_int H.out, hb1⟩
      · have H := Lib.hid (sign_yes x.toNat (N : Int) ((N : Int) - 1) (by omega) (by omega) (N - 1) (by omega) hb)
        go_enter Try.func18, Try.ntmps18
        go_wp2_with (first | (go_at_call 12; refine (rget_any _ _ _ _ w1 w2 (by omega) (by omega)).mono ?_; rintro e w' ⟨rfl, hb1⟩) | (go_at_call 37; refine (bit_any _ _ _ w1 w2 (by omega) (by omega)).mono ?_; rintro e w'' ⟨rfl, rfl⟩) | (go_at_call 10; refine (rlow_any _ _).mono ?_; rintro e w'' ⟨rfl, hb2⟩))
        go_ret
        exact ⟨ret_int H.out, hb1.trans (hb2.mono hb1.size)⟩

theorem turn_step (w n k j : Nat) (hn : n < 64) (hk : k < 64) (hj : j < 64) :
    (if j = (k + n) % 64 then w.testBit k else (decide ((j + 64 - n) % 64 < k) && w.testBit ((j + 64 - n) % 64))) = (decide ((j + 64 - n) % 64 < k + 1) && w.testBit ((j + 64 - n) % 64)) := by
  by_cases h : j = (k + n) % 64
  · have e : (j + 64 - n) % 64 = k := by omega
    rw [if_pos h, e]
    simp
  · have e : ((j + 64 - n) % 64 < k + 1) ↔ ((j + 64 - n) % 64 < k) := by omega
    rw [if_neg h, decide_eq_decide.2 e]

theorem swap_step (w k j : Nat) (hk : k < 64) (hj : j < 64) :
    (if j = 56 - k / 8 * 8 + k % 8 then w.testBit k else (decide (56 - j / 8 * 8 + j % 8 < k) && w.testBit (56 - j / 8 * 8 + j % 8))) = (decide (56 - j / 8 * 8 + j % 8 < k + 1) && w.testBit (56 - j / 8 * 8 + j % 8)) := by
  by_cases h : j = 56 - k / 8 * 8 + k % 8
  · have e : 56 - j / 8 * 8 + j % 8 = k := by omega
    rw [if_pos h, e]
    simp
  · have e : (56 - j / 8 * 8 + j % 8 < k + 1) ↔ (56 - j / 8 * 8 + j % 8 < k) := by omega
    rw [if_neg h, decide_eq_decide.2 e]

theorem rturn_any (x n : Int) (wo : World) (w1 : 0 ≤ x) (w2 : x ≤ 18446744073709551615) (h1 : 0 ≤ n) (h2 : n < 64) :
    Calls Try.prog 29 #[.int .u64 x, .int .i64 n] wo fun e w' => e = .returned (.int .u64 ((turn x.toNat n.toNat : Nat) : Int)) ∧ Below wo.heap.size wo w' := by
  obtain ⟨N, rfl⟩ := Int.eq_ofNat_of_zero_le h1
  rw [Int.toNat_natCast]
  go_enter Try.func29, Try.ntmps29
  go_wp2
  go_loopw [6] (fun i wr => ∃ k : Nat, k ≤ 64 ∧ i = .int .i64 k ∧ wr = wo.alloc (.cells (blk fun j => decide ((j + 64 - N) % 64 < k) && x.toNat.testBit ((j + 64 - N) % 64)) 49)) (fun i _ => 64 - (intOf i).toNat)
  case atStart => exact ⟨0, Nat.zero_le _, rfl, congrArg (fun x => wo.alloc (.cells x 49)) (blk_congr fun i _ => by simp : blk (fun _ => false) = _)⟩
  case round =>
    obtain ⟨k, hk, rfl, rfl⟩ := hrel
    by_cases hlt : k < 64
    · have hc := blk_at (fun j => decide ((j + 64 - N) % 64 < k) && x.toNat.testBit ((j + 64 - N) % 64)) ((k + N) % 64) (by omega)
      go_wp2_with (go_at_call 37; refine (bit_any _ _ _ w1 w2 (by omega) (by omega)).mono ?_; rintro e w' ⟨rfl, rfl⟩)

      go_roundw
      case rel => exact ⟨k + 1, by omega, by go_num, by rw [blk_set]; exact congrArg (fun x => wo.alloc (.cells x 49)) (blk_congr fun i hi => turn_step x.toNat N k i (by omega) hlt hi)⟩
      case measure => simp [intOf]; omega
    · have : k = 64 := by omega
      subst this
      have hs : (blk fun j => decide ((j + 64 - N) % 64 < 64) && x.toNat.testBit ((j + 64 - N) % 64)) = blk fun j => x.toNat.testBit ((j + 64 - N) % 64) := blk_congr fun i hi => by rw [decide_eq_true (Nat.mod_lt _ (by omega)), Bool.true_and]
      rw [hs]
      clear hs
      go_wp2_with (first | (go_at_call 34; refine (of_any _ _ _ (tab_length _) rfl).mono ?_; rintro e w' ⟨rfl, hb⟩) | (with_reducible refine wpList_load_row rfl 49 _ rfl wo.heap.size rfl 49 _ (0, 0) _ (heap_alloc_new _ _) Try.underlying49 rfl (by rw [info49, blk_size]) ?_))
      go_ret
      exact ⟨rfl, ((Below.refl _ _).alloc (Nat.le_refl _) _).trans (hb.mono (by simp))⟩

theorem rswap_any (x : Int) (wo : World) (w1 : 0 ≤ x) (w2 : x ≤ 18446744073709551615) :
    Calls Try.prog 31 #[.int .u64 x] wo fun e w' => e = .returned (.int .u64 ((swap x.toNat : Nat) : Int)) ∧ Below wo.heap.size wo w' := by
  go_enter Try.func31, Try.ntmps31
  go_wp2
  go_loopw [4] (fun i wr => ∃ k : Nat, k ≤ 64 ∧ i = .int .i64 k ∧ wr = wo.alloc (.cells (blk fun j => decide (56 - j / 8 * 8 + j % 8 < k) && x.toNat.testBit (56 - j / 8 * 8 + j % 8)) 49)) (fun i _ => 64 - (intOf i).toNat)
  case atStart => exact ⟨0, Nat.zero_le _, rfl, congrArg (fun x => wo.alloc (.cells x 49)) (blk_congr fun i _ => by simp : blk (fun _ => false) = _)⟩
  case round =>
    obtain ⟨k, hk, rfl, rfl⟩ := hrel
    by_cases hlt : k < 64
    · have hc := blk_at (fun j => decide (56 - j / 8 * 8 + j % 8 < k) && x.toNat.testBit (56 - j / 8 * 8 + j % 8)) (56 - k / 8 * 8 + k % 8) (by omega)
      go_wp2_with (go_at_call 37; refine (bit_any _ _ _ w1 w2 (by omega) (by omega)).mono ?_; rintro e w' ⟨rfl, rfl⟩)

      go_roundw
      case rel => exact ⟨k + 1, by omega, by go_num, by rw [blk_set]; exact congrArg (fun x => wo.alloc (.cells x 49)) (blk_congr fun i hi => swap_step x.toNat k i hlt hi)⟩
      case measure => simp [intOf]; omega
    · have : k = 64 := by omega
      subst this
      have hs : (blk fun j => decide (56 - j / 8 * 8 + j % 8 < 64) && x.toNat.testBit (56 - j / 8 * 8 + j % 8)) = blk fun j => x.toNat.testBit (56 - j / 8 * 8 + j % 8) := blk_congr fun i hi => by rw [decide_eq_true (by omega), Bool.true_and]
      rw [hs]
      clear hs
      go_wp2_with (first | (go_at_call 34; refine (of_any _ _ _ (tab_length _) rfl).mono ?_; rintro e w' ⟨rfl, hb⟩) | (with_reducible refine wpList_load_row rfl 49 _ rfl wo.heap.size rfl 49 _ (0, 0) _ (heap_alloc_new _ _) Try.underlying49 rfl (by rw [info49, blk_size]) ?_))
      go_ret
      exact ⟨rfl, ((Below.refl _ _).alloc (Nat.le_refl _) _).trans (hb.mono (by simp))⟩

theorem rcount_any (x : Int) (wo : World) (w1 : 0 ≤ x) (w2 : x ≤ 18446744073709551615) :
    Calls Try.prog 27 #[.int .u64 x] wo fun e w' => e = .returned (.tuple #[.int .i64 ((ones x.toNat : Nat) : Int), .int .i64 (topW x.toNat), .int .i64 (botW x.toNat)]) ∧ wo = w' := by
  unfold ones topW botW
  go_enter Try.func27, Try.ntmps27
  go_wp2
  go_loop [5, 6, 7, 8] (fun c t b i => ∃ k : Nat, k ≤ 64 ∧ i = .int .i64 k ∧ c = .int .i64 ((cnt (fun i => x.toNat.testBit i) k : Nat) : Int) ∧ t = .int .i64 (top (fun i => x.toNat.testBit i) k) ∧ b = .int .i64 (bot (fun i => x.toNat.testBit i) k)) (fun _ _ _ i => 64 - (intOf i).toNat)
  case atStart => exact ⟨0, Nat.zero_le _, rfl, rfl, rfl, rfl⟩
  case round =>
    obtain ⟨k, hk, rfl, rfl, rfl, rfl⟩ := hrel
    by_cases hlt : k < 64
    · have hc := cnt_le (fun i => x.toNat.testBit i) k
      cases hb : x.toNat.testBit k
      · have hs1 : Hid (cnt (fun i => x.toNat.testBit i) (k + 1) = cnt (fun i => x.toNat.testBit i) k) := by show _ = _; simp only [cnt]; simp [hb]
        have hs2 : Hid (top (fun i => x.toNat.testBit i) (k + 1) = top (fun i => x.toNat.testBit i) k) := by show _ = _; simp only [top]; rw [if_neg (by simp [hb])]
        have hs3 : Hid (bot (fun i => x.toNat.testBit i) (k + 1) = bot (fun i => x.toNat.testBit i) k) := by show _ = _; simp only [bot]; rw [if_neg (by simp [hb])]
        go_wp2_with (go_at_call 37; refine (bit_any _ _ _ w1 w2 (by omega) (by omega)).mono ?_; rintro e w' ⟨rfl, rfl⟩)
        go_round
        case rel => exact ⟨k + 1, by omega, by go_num, by rw [hs1.out], by rw [hs2.out], by rw [hs3.out]⟩
        case measure => simp [intOf]; omega
      · have hs1 : Hid (cnt (fun i => x.toNat.testBit i) (k + 1) = cnt (fun i => x.toNat.testBit i) k + 1) := by show _ = _; simp only [cnt]; simp [hb]
        have hs2 : Hid (top (fun i => x.toNat.testBit i) (k + 1) = k) := by show _ = _; simp only [top]; rw [if_pos (by simp [hb])]
        by_cases hn : bot (fun i => x.toNat.testBit i) k < 0
        · have hs3 : Hid (bot (fun i => x.toNat.testBit i) (k + 1) = k) := by show _ = _; simp only [bot]; rw [if_pos ⟨hb, hn⟩]
          go_wp2_with (go_at_call 37; refine (bit_any _ _ _ w1 w2 (by omega) (by omega)).mono ?_; rintro e w' ⟨rfl, rfl⟩)
          go_round
          case rel => exact ⟨k + 1, by omega, by go_num, by rw [hs1.out]; go_num, by rw [hs2.out], by rw [hs3.out]⟩
          case measure => simp [intOf]; omega
        · have hs3 : Hid (bot (fun i => x.toNat.testBit i) (k + 1) = bot (fun i => x.toNat.testBit i) k) := by show _ = _; simp only [bot]; rw [if_neg (fun h => hn h.2)]
          go_wp2_with (go_at_call 37; refine (bit_any _ _ _ w1 w2 (by omega) (by omega)).mono ?_; rintro e w' ⟨rfl, rfl⟩)
          go_round
          case rel => exact ⟨k + 1, by omega, by go_num, by rw [hs1.out]; go_num, by rw [hs2.out], by rw [hs3.out]⟩
          case measure => simp [intOf]; omega
    · have : k = 64 := by omega
      subst this
      go_wp2
      go_ret3
      exact ⟨rfl, rfl⟩
end Go.Proofs.Ytploclopllfmdaa.bw
