/-
  The walks of layer 21: runs, and which events move a state.
-/
import Derived.Test.YtnjipfnajgcibaaLifeB
import Derived.Deep.QuietTactic
import Derived.BigQuiet
namespace Go.Proofs.Ytnjipfnajgcibaa.lw
open Go.RowKit Go.Proofs.Ytnjipfnajgcibaa.ba Go.Proofs.Ytnjipfnajgcibaa.lp
set_option linter.unusedVariables false

theorem run_any (s : Int) (a : Option Addr) (len cap : Nat) (Z : Nat → Int) (w : World) (hl : len ≤ 9223372036854775807) (hZ : Ints .i64 w a len Z) :
    Calls Try.prog 13 #[.int .i64 s, .slice a len cap] w fun x w' => x = .returned (.tuple #[.int .i64 (runF Z s 0 len).1, .int .i64 (runF Z s 0 len).2.1, .int .i64 (runF Z s 0 len).2.2]) ∧ Below w.heap.size w w' := by
  go_enter Try.func13, Try.ntmps13
  go_wp2_with fail
  go_loopw [0, 13] (fun t i wr => ∃ (k : Nat) (st : Int), k ≤ len ∧ i = .int .i64 k ∧ t = .int .i64 st ∧ Hid (runF Z s 0 len = runF Z st k (len - k)) ∧ Below w.heap.size w wr) (fun _ i _ => len - (intOf i).toNat)
  case atStart => exact ⟨0, s, Nat.zero_le _, rfl, rfl, rfl, Below.refl _ _⟩
  case round =>
    obtain ⟨k, st, hk, rfl, rfl, hrun, hbel⟩ := hrel
    by_cases hlt : k < len
    · rcases hZ with h0 | ⟨b, off, rfl, hZ⟩
      · omega
      · have c1 := hZ k hlt
        have d1 := bsome hbel c1 (World.block_lt_of_cell? w _ c1)
        have hm := moveF_bounds st (Z k)
        clear hZ c1
        by_cases he : (moveF st (Z k)).2 = 0
        · have hs := Lib.hid (runF_step Z st k len hlt he)
          have hne : ((moveF st (Z k)).2 != 0) = false := by simp [he]
          clear he
          go_wp2_with (go_at_call 8; refine (move_any _ _ _).mono ?_; rintro x W1 ⟨rfl, hb1⟩; replace hbel := bthen hbel hb1; clear hb1)
          go_roundw
          case rel => exact ⟨k + 1, _, by omega, by go_num, rfl, by rw [hrun.out, hs.out]; exact rfl, hbel⟩
          case measure => simp [intOf]; omega
        · have hs := Lib.hid (runF_stop Z st k len hlt he)
          have hne : ((moveF st (Z k)).2 != 0) = true := by simpa using he
          clear he
          go_wp2_with (go_at_call 8; refine (move_any _ _ _).mono ?_; rintro x W1 ⟨rfl, hb1⟩; replace hbel := bthen hbel hb1; clear hb1)
          go_ret3
          exact ⟨by rw [hrun.out, hs.out]; rfl, hbel⟩
    · have : k = len := by omega
      subst this
      go_wp2_with fail
      go_ret3
      exact ⟨by rw [hrun.out, Nat.sub_self]; rfl, hbel⟩

theorem rrun_any (s : Int) (a : Option Addr) (len cap : Nat) (Z : Nat → Int) (w : World) (hl : len ≤ 9223372036854775807) (hZ : Ints .i64 w a len Z) :
    Calls Try.prog 14 #[.int .i64 s, .slice a len cap] w fun x w' => x = .returned (.tuple #[.int .i64 (runF Z s 0 len).1, .int .i64 (runF Z s 0 len).2.1, .int .i64 (runF Z s 0 len).2.2]) ∧ w = w' := by
  go_enter Try.func14, Try.ntmps14
  go_wp2_with fail
  go_loop [0, 7] (fun t i => ∃ (k : Nat) (st : Int), k ≤ len ∧ i = .int .i64 k ∧ t = .int .i64 st ∧ Hid (runF Z s 0 len = runF Z st k (len - k))) (fun _ i => len - (intOf i).toNat)
  case atStart => exact ⟨0, s, Nat.zero_le _, rfl, rfl, rfl⟩
  case round =>
    obtain ⟨k, st, hk, rfl, rfl, hrun⟩ := hrel
    by_cases hlt : k < len
    · rcases hZ with h0 | ⟨b, off, rfl, hZ⟩
      · omega
      · have d1 := hZ k hlt
        have hm := moveF_bounds st (Z k)
        clear hZ
        by_cases he : (moveF st (Z k)).2 = 0
        · have hs := Lib.hid (runF_step Z st k len hlt he)
          have hne : ((moveF st (Z k)).2 != 0) = false := by simp [he]
          clear he
          go_wp2_with (go_at_call 9; refine (rmove_any _ _ _).mono ?_; rintro x W1 ⟨rfl, rfl⟩)
          go_round
          case rel => exact ⟨k + 1, _, by omega, by go_num, rfl, by rw [hrun.out, hs.out]; exact rfl⟩
          case measure => simp [intOf]; omega
        · have hs := Lib.hid (runF_stop Z st k len hlt he)
          have hne : ((moveF st (Z k)).2 != 0) = true := by simpa using he
          clear he
          go_wp2_with (go_at_call 9; refine (rmove_any _ _ _).mono ?_; rintro x W1 ⟨rfl, rfl⟩)
          go_ret3
          exact ⟨by rw [hrun.out, hs.out]; rfl, rfl⟩
    · have : k = len := by omega
      subst this
      go_wp2_with fail
      go_ret3
      exact ⟨by rw [hrun.out, Nat.sub_self]; rfl, rfl⟩

/-- The same numbers? -/
def sameF (Z Y : Nat → Int) : Nat → Bool
  | 0 => true
  | k + 1 => sameF Z Y k && decide (Z k = Y k)

theorem sameF_false (Z Y : Nat → Int) (k : Nat) : ∀ n, k < n → Z k ≠ Y k → sameF Z Y n = false := by
  intro n
  induction n with
  | zero => intro h; omega
  | succ n ih =>
    intro h hne
    rw [sameF]
    by_cases hk : k = n
    · subst hk; simp [hne]
    · rw [ih (by omega) hne]; rfl
theorem sameF_iff (Z Y : Nat → Int) (n : Nat) : sameF Z Y n = true ↔ ∀ i, i < n → Z i = Y i := by
  induction n with
  | zero => simp [sameF]
  | succ n ih =>
    rw [sameF, Bool.and_eq_true, ih, decide_eq_true_eq]
    constructor
    · intro ⟨h1, h2⟩ i hi
      by_cases h : i = n
      · subst h; exact h2
      · exact h1 i (by omega)
    · intro h
      exact ⟨fun i hi => h i (by omega), h n (by omega)⟩

theorem same_any (a b : Option Addr) (len cap len2 cap2 : Nat) (Z Y : Nat → Int) (w : World) (hl : len ≤ 9223372036854775807) (hl2 : len2 ≤ 9223372036854775807) (hZ : Ints .i64 w a len Z) (hY : Ints .i64 w b len2 Y) :
    Calls Try.prog 11 #[.slice a len cap, .slice b len2 cap2] w fun x w' => x = .returned (.bool (decide (len = len2) && sameF Z Y len)) ∧ Below w.heap.size w w' := by
  by_cases hll : len = len2
  · subst hll
    have hne : ((len : Int) != (len : Int)) = false := by simp
    go_enter Try.func11, Try.ntmps11
    go_wp2_with fail
    go_loopw [5] (fun i wr => ∃ (k : Nat), k ≤ len ∧ i = .int .i64 k ∧ Hid (sameF Z Y k = true) ∧ Below w.heap.size w wr) (fun i _ => len - (intOf i).toNat)
    case atStart => exact ⟨0, Nat.zero_le _, rfl, rfl, Below.refl _ _⟩
    case round =>
      obtain ⟨k, hk, rfl, hs, hbel⟩ := hrel
      by_cases hlt : k < len
      · rcases hZ with h0 | ⟨b1, off1, rfl, hZ⟩
        · omega
        · rcases hY with h0 | ⟨b2, off2, rfl, hY⟩
          · omega
          · have c1 := hZ k hlt
            have c2 := hY k hlt
            have d1 := bsome hbel c1 (World.block_lt_of_cell? w _ c1)
            have d2 := bsome hbel c2 (World.block_lt_of_cell? w _ c2)
            have hk0 : (0 : Int) ≤ (k : Int) := Int.natCast_nonneg _
            have hk1 : (k : Int) < (len : Int) := by omega
            clear hZ hY c1 c2
            by_cases he : Z k = Y k
            · have hs2 : Hid (sameF Z Y (k + 1) = true) := by show _ = _; rw [sameF, hs.out]; simp [he]
              have hne : (Z k != Y k) = false := by simp [he]
              clear he
              go_wp2_with fail
              go_quiet (fail)
              go_wp2_with fail
              go_roundw
              case rel => exact ⟨k + 1, by omega, by go_num, hs2, bdrew hbel _⟩
              case measure => simp [intOf]; omega
            · have hs2 : Hid (sameF Z Y len = false) := sameF_false Z Y k len hlt he
              have hne : (Z k != Y k) = true := by simpa using he
              clear he
              go_wp2_with fail
              go_quiet (fail)
              go_wp2_with fail
              go_ret
              exact ⟨ret_bool (by rw [hs2.out]; simp), bdrew hbel _⟩
      · have : k = len := by omega
        subst this
        go_wp2_with fail
        go_ret
        exact ⟨ret_bool (by rw [hs.out]; simp), hbel⟩
  · have hne : ((len : Int) != (len2 : Int)) = true := by simp; omega
    go_enter Try.func11, Try.ntmps11
    go_wp2_with fail
    go_ret
    exact ⟨ret_bool (by simp [hll]), Below.refl _ _⟩

theorem info3 : (Try.prog.info? 3).map (fun i => (i.zero, i.size, i.bytes)) = some (some (.int .i64 0), 1, 8) := by kernel_rfl

theorem can_any (s : Int) (w : World) : Calls Try.prog 12 #[.int .i64 s] w fun x w' => OwnInts 3 .i64 w w' (canK s 5) x := by
  obtain ⟨i0, hi, hz0, hz1, hz2⟩ := info_parts info3
  go_enter Try.func12, Try.ntmps12
  go_wp2_with fail
  go_loopw [3, 4] (fun o v wr => ∃ (k : Nat), k ≤ 5 ∧ v = .int .i64 ((k : Int) + 1) ∧ wr.ownsRow w.heap.size 3 1 o (canK s k).length ((canK s k).map (Value.int .i64)) ∧ Below w.heap.size w wr) (fun _ v _ => (6 - intOf v).toNat)
  case atStart => exact ⟨0, Nat.zero_le _, rfl, World.ownsRow_nil _ _ _ _, Below.refl _ _⟩
  case round =>
    obtain ⟨k, hk, rfl, hown, hbel⟩ := hrel
    by_cases hlt : k < 5
    · have hm := moveF_bounds s ((k : Int) + 1)
      have hle := canK_le s k
      have hz := hbel.size
      by_cases he : (moveF s ((k : Int) + 1)).2 = 0
      · have hs : Hid (canK s (k + 1) = canK s k ++ [(k : Int) + 1]) := by show _ = _; rw [canK, if_pos he]
        go_wp2_with fail
        refine (move_any _ _ _).mono ?_
        rintro x W1 ⟨rfl, hb1⟩
        have hown1 := own_below hown hb1
        replace hbel := bthen hbel hb1
        have hz1' := hb1.size
        clear hb1 hown
        go_wp2_with (at_builtin; refine wpList_append_one rfl _ _ 27 rfl w.heap.size 3 i0 (.int .i64 0) 8 Try.underlying27 hi hz0 hz1 hz2 rfl u3 _ _ rfl hown1 _ rfl _ rfl (by omega) (by omega) (by omega) ?_; intro v2 W2 hown2 hg2)
        go_roundw
        case rel => exact ⟨k + 1, by omega, by go_num, by rw [hs.out]; simpa using hown2, below_append hbel (by omega) hown1 (Nat.le_refl _) hg2⟩
        case measure => simp [intOf]; omega
      · have hs : Hid (canK s (k + 1) = canK s k) := by show _ = _; rw [canK, if_neg he]
        have hne : ((moveF s ((k : Int) + 1)).2 == 0) = false := by simpa using he
        clear he
        go_wp2_with fail
        refine (move_any _ _ _).mono ?_
        rintro x W1 ⟨rfl, hb1⟩
        have hown1 := own_below hown hb1
        replace hbel := bthen hbel hb1
        clear hb1 hown
        go_wp2_with fail
        go_roundw
        case rel => exact ⟨k + 1, by omega, by go_num, by rw [hs.out]; exact hown1, hbel⟩
        case measure => simp [intOf]; omega
    · have : k = 5 := by omega
      subst this
      obtain ⟨a, cap, hv, _⟩ := own_form hown
      subst hv
      go_wp2_with fail
      go_ret
      exact ⟨a, cap, rfl, hown, hbel⟩
end Go.Proofs.Ytnjipfnajgcibaa.lw
