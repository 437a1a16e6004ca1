/-
  The walks of the functions of the document's answer for words: bits by halving, and words of bits.
-/
import Derived.Test.YtploclopllfmdaaRows
import Derived.Test.YtploclopllfmdaaBitsLaws
import Derived.Test.YtploclopllfmdaaBitsA
import Derived.WalkKit
import Derived.Lib.Hide
import Derived.WalkSpells
import Derived.WalkLawsBesides
namespace Go.Proofs.Ytploclopllfmdaa.bw
open Go.RowKit Go.Proofs.Ytploclopllfmdaa.bp Go.Proofs.Ytploclopllfmdaa.bl

theorem power_any (n : Int) (w : World) (h0 : 0 ≤ n) (h1 : n < 64) :
    Calls Try.prog 39 #[.int .i64 n] w fun e w' => e = .returned (.int .u64 ((pw n.toNat : Nat) : Int)) ∧ w = w' := by
  obtain ⟨N, rfl⟩ := Int.eq_ofNat_of_zero_le h0
  go_enter Try.func39, Try.ntmps39
  go_wp2
  go_loop [3, 4] (fun x i => ∃ k : Nat, k ≤ N ∧ i = .int .i64 k ∧ x = .int .u64 ((pw k : Nat) : Int)) (fun _ i => N - (intOf i).toNat)
  case atStart => exact ⟨0, Nat.zero_le _, rfl, rfl⟩
  case round =>
    obtain ⟨k, hk, rfl, rfl⟩ := hrel
    by_cases hlt : k < N
    · have hb : pw k * 2 < 18446744073709551616 := by have := pw_lt (k + 1) (by omega); rwa [pw_succ] at this
      go_wp2
      go_round
      case rel => exact ⟨k + 1, by omega, by go_num, by rw [pw_succ]; go_num⟩
      case measure => simp [intOf]; omega
    · have : k = N := by omega
      subst this
      go_wp2
      go_ret
      exact ⟨rfl, rfl⟩

theorem bit_any (w i : Int) (wo : World) (w1 : 0 ≤ w) (w2 : w ≤ 18446744073709551615) (h0 : 0 ≤ i) (h1 : i < 64) :
    Calls Try.prog 37 #[.int .u64 w, .int .i64 i] wo fun e w' => e = .returned (.bool (w.toNat.testBit i.toNat)) ∧ wo = w' := by
  have hp := pw_pos i.toNat
  have hq := pw_lt i.toNat (by omega)
  go_enter Try.func37, Try.ntmps37
  go_wp2_with (go_at_call 39; refine (power_any _ _ h0 h1).mono ?_; rintro e w' ⟨rfl, rfl⟩)
  go_ret
  refine ⟨ret_bool ?_, rfl⟩
  obtain ⟨W, rfl⟩ := Int.eq_ofNat_of_zero_le w1
  rw [testBit_eq, Int.toNat_natCast, ← Int.natCast_ediv]
  rw [Int.tmod_eq_emod_of_nonneg (Int.natCast_nonneg _), Bool.eq_iff_iff]
  simp
  omega

theorem of_any (arr : Array Value) (l : List Bool) (wo : World) (hl : l.length = 64) (harr : arr = (l.map Value.bool).toArray) :
    Calls Try.prog 34 #[.agg arr] wo fun e w' => e = .returned (.int .u64 ((val l : Nat) : Int)) ∧ Below wo.heap.size wo w' := by
  have hcell : ∀ k, k < 64 → arr[k]? = some (.bool (l[k]?.getD false)) := by
    intro k hk
    rw [harr]
    simp [hl, hk]
  clear harr
  go_enter Try.func34, Try.ntmps34
  go_wp2
  go_loop [3, 4] (fun x i => ∃ j : Int, -1 ≤ j ∧ j ≤ 63 ∧ i = .int .i64 j ∧ x = .int .u64 ((val (l.drop (j + 1).toNat) : Nat) : Int)) (fun _ i => (intOf i + 1).toNat)
  case atStart => exact ⟨63, by omega, by omega, rfl, by rw [List.drop_eq_nil_of_le (by simp [hl])]; rfl⟩
  case round =>
    obtain ⟨j, hj0, hj1, rfl, rfl⟩ := hrel
    by_cases hlt : 0 ≤ j
    · obtain ⟨J, rfl⟩ := Int.eq_ofNat_of_zero_le hlt
      have e1 : ((J : Int) + 1).toNat = J + 1 := by omega
      have e2 : ((J : Int) - 1 + 1).toNat = J := by omega
      have hb := val_drop_lt l J hl (by omega)
      rw [e1]
      have hc := hcell J (by omega)
      have E2 := Lib.hid e2
      clear e1 e2
      go_wp2
      all_goals go_round
      · case rel => exact ⟨J - 1, by omega, by omega, rfl, by rw [E2.out, val_yes l J (by omega) (by assumption)]; go_num⟩
      · case measure => simp [intOf]
      · case rel => exact ⟨J - 1, by omega, by omega, rfl, by rw [E2.out, val_no l J (by omega) (by assumption)]; go_num⟩
      · case measure => simp [intOf]
    · have : j = -1 := by omega
      subst this
      go_wp2
      go_ret
      exact ⟨ret_int (by simp), (Below.refl _ _).alloc (Nat.le_refl _) _⟩

/-- The block of an array of 64 bits. -/
def blk (f : Nat → Bool) : Array Value := ((tab f).map Value.bool).toArray

theorem blk_set (f : Nat → Bool) (k : Nat) (b : Bool) : (blk f).setIfInBounds k (.bool b) = blk (fun i => if i = k then b else f i) := by
  apply Array.ext_getElem?
  intro i
  rw [Array.getElem?_setIfInBounds]
  by_cases hi : i < 64
  · simp [blk, tab, hi]
    by_cases h : k = i
    · subst h; simp [hi]
    · simp [h, Ne.symm h]
  · simp [blk, tab, hi]
    omega

theorem blk_at (f : Nat → Bool) (k : Nat) (hk : k < 64) : (blk f)[k]? = some (.bool (f k)) := by simp [blk, tab, hk]
theorem blk_congr {f g : Nat → Bool} (h : ∀ i, i < 64 → f i = g i) : blk f = blk g := by unfold blk; rw [tab_congr h]
theorem blk_size (f : Nat → Bool) : (blk f).size = 64 := by simp [blk, tab]

theorem info49 : (Try.prog.info? 49).map (·.size) = some 64 := by kernel_rfl

theorem rlow_any (n : Int) (wo : World) :
    Calls Try.prog 10 #[.int .i64 n] wo fun e w' => e = .returned (.int .u64 ((low n.toNat : Nat) : Int)) ∧ Below wo.heap.size wo w' := by
  go_enter Try.func10, Try.ntmps10
  go_wp2
  go_loopw [4] (fun i wr => ∃ k : Nat, k ≤ 64 ∧ i = .int .i64 k ∧ wr = wo.alloc (.cells (blk fun j => decide (j < k) && decide ((j : Int) < n)) 49)) (fun i _ => 64 - (intOf i).toNat)
  case atStart => exact ⟨0, Nat.zero_le _, rfl, rfl⟩
  case round =>
    obtain ⟨k, hk, rfl, rfl⟩ := hrel
    by_cases hlt : k < 64
    · have hc := blk_at (fun j => decide (j < k) && decide ((j : Int) < n)) k hlt
      go_wp2
      go_roundw
      case rel => exact ⟨k + 1, by omega, by go_num, by rw [blk_set]; exact congrArg (fun x => wo.alloc (.cells x 49)) (blk_congr fun i _ => step_bits (fun j => decide ((j : Int) < n)) k i)⟩
      case measure => simp [intOf]; omega
    · have : k = 64 := by omega
      subst this
      go_wp2_with (first | (go_at_call 34; refine (of_any _ _ _ (tab_length _) rfl).mono ?_; rintro e w' ⟨rfl, hb⟩) | (with_reducible refine wpList_load_row rfl 49 _ rfl wo.heap.size rfl 49 _ (0, 0) _ (heap_alloc_new _ _) Try.underlying49 rfl (by rw [info49, blk_size]) ?_))
      go_ret
      exact ⟨ret_int (by rw [val_low]), ((Below.refl _ _).alloc (Nat.le_refl _) _).trans (hb.mono (by simp))⟩

theorem rget_any (w lo n : Int) (wo : World) (w1 : 0 ≤ w) (w2 : w ≤ 18446744073709551615) (h1 : -9223372036854775808 ≤ lo) (h2 : lo ≤ 9223372036854775807) :
    Calls Try.prog 12 #[.int .u64 w, .int .i64 lo, .int .i64 n] wo fun e w' => e = .returned (.int .u64 ((getF w.toNat lo n : Nat) : Int)) ∧ Below wo.heap.size wo w' := by
  by_cases h : there lo n = true
  · obtain ⟨b1, b2, b3, b4⟩ := (there_iff _ _).1 h
    obtain ⟨L, rfl⟩ := Int.eq_ofNat_of_zero_le b1
    obtain ⟨N, rfl⟩ := Int.eq_ofNat_of_zero_le b2
    have hL : L + N ≤ 64 := by omega
    have hw : w.toNat < 18446744073709551616 := by omega
    go_enter Try.func12, Try.ntmps12
    go_wp2
    go_loopw [8] (fun i wr => ∃ k : Nat, k ≤ N ∧ i = .int .i64 k ∧ wr = wo.alloc (.cells (blk fun j => decide (j < k) && w.toNat.testBit (L + j)) 49)) (fun i _ => N - (intOf i).toNat)
    case atStart => exact ⟨0, Nat.zero_le _, rfl, rfl⟩
    case round =>
      obtain ⟨k, hk, rfl, rfl⟩ := hrel
      by_cases hlt : k < N
      · have hc := blk_at (fun j => decide (j < k) && w.toNat.testBit (L + j)) k (by omega)
        go_wp2_with (first | (go_at_call 36; refine (rthere_any _ _ _ h1 h2).mono ?_; rintro e w' ⟨rfl, rfl⟩) | (go_at_call 37; refine (bit_any _ _ _ w1 w2 (by omega) (by omega)).mono ?_; rintro e w' ⟨rfl, rfl⟩))
        go_roundw
        case rel => exact ⟨k + 1, by omega, by go_num, by rw [blk_set]; exact congrArg (fun x => wo.alloc (.cells x 49)) (blk_congr fun i _ => step_get w.toNat L k i)⟩
        case measure => simp [intOf]; omega
      · have : k = N := by omega
        subst this
        go_wp2_with (first | (go_at_call 36; refine (rthere_any _ _ _ h1 h2).mono ?_; rintro e w' ⟨rfl, rfl⟩) | (go_at_call 34; refine (of_any _ _ _ (tab_length _) rfl).mono ?_; rintro e w' ⟨rfl, hb⟩) | (with_reducible refine wpList_load_row rfl 49 _ rfl wo.heap.size rfl 49 _ (0, 0) _ (heap_alloc_new _ _) Try.underlying49 rfl (by rw [info49, blk_size]) ?_))
        go_ret
        exact ⟨ret_int (by rw [val_getF _ _ _ hL hw]), ((Below.refl _ _).alloc (Nat.le_refl _) _).trans (hb.mono (by simp))⟩
  · have h' : there lo n = false := by simpa using h
    go_enter Try.func12, Try.ntmps12
    go_wp2
    go_loopw [8] (fun i wr => i = .int .i64 0 ∧ wr = wo.alloc (.cells (blk fun j => false) 49)) (fun i _ => 0)
    case atStart => exact ⟨rfl, rfl⟩
    case round =>
      obtain ⟨rfl, rfl⟩ := hrel
      go_wp2_with (first | (go_at_call 36; refine (rthere_any _ _ _ h1 h2).mono ?_; rintro e w' ⟨rfl, rfl⟩) | (go_at_call 34; refine (of_any _ _ _ (tab_length _) rfl).mono ?_; rintro e w' ⟨rfl, hb⟩) | (with_reducible refine wpList_load_row rfl 49 _ rfl wo.heap.size rfl 49 _ (0, 0) _ (heap_alloc_new _ _) Try.underlying49 rfl (by rw [info49, blk_size]) ?_))
      go_ret
      exact ⟨ret_int (by rw [val_zero]; simp [getF, h']), ((Below.refl _ _).alloc (Nat.le_refl _) _).trans (hb.mono (by simp))⟩

theorem rput_any (w lo n v : Int) (wo : World) (w1 : 0 ≤ w) (w2 : w ≤ 18446744073709551615) (v1 : 0 ≤ v) (v2 : v ≤ 18446744073709551615) (h1 : -9223372036854775808 ≤ lo) (h2 : lo ≤ 9223372036854775807) :
    Calls Try.prog 14 #[.int .u64 w, .int .i64 lo, .int .i64 n, .int .u64 v] wo fun e w' => e = .returned (.int .u64 ((putF w.toNat lo n v.toNat : Nat) : Int)) ∧ Below wo.heap.size wo w' := by
  have hw : w.toNat < 18446744073709551616 := by omega
  go_enter Try.func14, Try.ntmps14
  go_wp2
  go_loopw [10] (fun i wr => ∃ k : Nat, k ≤ 64 ∧ i = .int .i64 k ∧ wr = wo.alloc (.cells (blk fun j => decide (j < k) && w.toNat.testBit j) 49)) (fun i _ => 64 - (intOf i).toNat)
  case atStart => exact ⟨0, Nat.zero_le _, rfl, rfl⟩
  case round =>
    obtain ⟨k, hk, rfl, rfl⟩ := hrel
    by_cases hlt : k < 64
    · have hc := blk_at (fun j => decide (j < k) && w.toNat.testBit j) k (by omega)
      go_wp2_with (go_at_call 37; refine (bit_any _ _ _ w1 w2 (by omega) (by omega)).mono ?_; rintro e w' ⟨rfl, rfl⟩)
      go_roundw
      case rel => exact ⟨k + 1, by omega, by go_num, by rw [blk_set]; exact congrArg (fun x => wo.alloc (.cells x 49)) (blk_congr fun i _ => step_bits (fun j => w.toNat.testBit j) k i)⟩
      case measure => simp [intOf]; omega
    · have : k = 64 := by omega
      subst this
      have hs : (blk fun j => decide (j < 64) && w.toNat.testBit j) = blk fun j => w.toNat.testBit j := blk_congr fun i hi => by rw [decide_eq_true hi, Bool.true_and]
      rw [hs, show ((64 : Nat) : Int) = 64 from rfl]
      clear hs
      by_cases h : there lo n = true
      · obtain ⟨b1, b2, b3, b4⟩ := (there_iff _ _).1 h
        obtain ⟨L, rfl⟩ := Int.eq_ofNat_of_zero_le b1
        obtain ⟨N, rfl⟩ := Int.eq_ofNat_of_zero_le b2
        have hL : L + N ≤ 64 := by omega
        go_wp2
        go_loopw [11] (fun i wr => ∃ k : Nat, k ≤ N ∧ i = .int .i64 k ∧ wr = wo.alloc (.cells (blk fun j => if L ≤ j ∧ j < L + k then v.toNat.testBit (j - L) else w.toNat.testBit j) 49)) (fun i _ => N - (intOf i).toNat)
        case atStart => exact ⟨0, Nat.zero_le _, rfl, congrArg (fun x => wo.alloc (.cells x 49)) (blk_congr fun i _ => by rw [if_neg (by omega)])⟩
        case round =>
          obtain ⟨k, hk, rfl, rfl⟩ := hrel
          by_cases hlt : k < N
          · have hc := blk_at (fun j => if L ≤ j ∧ j < L + k then v.toNat.testBit (j - L) else w.toNat.testBit j) (L + k) (by omega)
            go_wp2_with (first | (go_at_call 36; refine (rthere_any _ _ _ h1 h2).mono ?_; rintro e w' ⟨rfl, rfl⟩) | (go_at_call 37; refine (bit_any _ _ _ v1 v2 (by omega) (by omega)).mono ?_; rintro e w' ⟨rfl, rfl⟩))
            go_roundw
            case rel => exact ⟨k + 1, by omega, by go_num, by rw [blk_set]; exact congrArg (fun x => wo.alloc (.cells x 49)) (blk_congr fun i _ => put_step w.toNat L k v.toNat i)⟩
            case measure => simp [intOf]; omega
          · have : k = N := by omega
            subst this
            go_wp2_with (first | (go_at_call 36; refine (rthere_any _ _ _ h1 h2).mono ?_; rintro e w' ⟨rfl, rfl⟩) | (go_at_call 34; refine (of_any _ _ _ (tab_length _) rfl).mono ?_; rintro e w' ⟨rfl, hb⟩) | (with_reducible refine wpList_load_row rfl 49 _ rfl wo.heap.size rfl 49 _ (0, 0) _ (heap_alloc_new _ _) Try.underlying49 rfl (by rw [info49, blk_size]) ?_))
            go_ret
            exact ⟨ret_int (by rw [val_putF _ _ _ _ hL hw]), ((Below.refl _ _).alloc (Nat.le_refl _) _).trans (hb.mono (by simp))⟩
      · have h' : there lo n = false := by simpa using h
        go_wp2
        go_loopw [11] (fun i wr => i = .int .i64 0 ∧ wr = wo.alloc (.cells (blk fun j => w.toNat.testBit j) 49)) (fun i _ => 0)
        case atStart => exact ⟨rfl, rfl⟩
        case round =>
          obtain ⟨rfl, rfl⟩ := hrel
          go_wp2_with (first | (go_at_call 36; refine (rthere_any _ _ _ h1 h2).mono ?_; rintro e w' ⟨rfl, rfl⟩) | (go_at_call 34; refine (of_any _ _ _ (tab_length _) rfl).mono ?_; rintro e w' ⟨rfl, hb⟩) | (with_reducible refine wpList_load_row rfl 49 _ rfl wo.heap.size rfl 49 _ (0, 0) _ (heap_alloc_new _ _) Try.underlying49 rfl (by rw [info49, blk_size]) ?_))
          go_ret
          exact ⟨ret_int (by rw [val_same _ hw]; simp [putF, h']), ((Below.refl _ _).alloc (Nat.le_refl _) _).trans (hb.mono (by simp))⟩
end Go.Proofs.Ytploclopllfmdaa.bw
