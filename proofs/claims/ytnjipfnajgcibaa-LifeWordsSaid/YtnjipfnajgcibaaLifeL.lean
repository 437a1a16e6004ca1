/-
  The walk of the law LifeWords.
-/
import Derived.Test.YtnjipfnajgcibaaLifeG
namespace Go.Proofs.Ytnjipfnajgcibaa.lw
open Go.RowKit Go.Proofs.Ytnjipfnajgcibaa.ba Go.Proofs.Ytnjipfnajgcibaa.lp
set_option linter.unusedVariables false

theorem rwords_any (w : World) : Calls Try.prog 17 #[] w fun x w' => ∃ g, x = .returned (.slice (some ⟨g, 0, none⟩) 6 6) ∧ (∀ i : Nat, i < 6 → w'.cell? ⟨g, i, none⟩ = some (.string (wordF i))) ∧ Below w.heap.size w w' := by
  go_enter Try.func17, Try.ntmps17
  go_wp2_with fail
  go_ret
  refine ⟨_, rfl, fun i hi => ?_, (Below.refl _ _).alloc (Nat.le_refl _) _⟩
  rw [cell_of_row _ _ i _ _ _ (heap_alloc_new w _)]
  have : i = 0 ∨ i = 1 ∨ i = 2 ∨ i = 3 ∨ i = 4 ∨ i = 5 := by omega
  rcases this with rfl | rfl | rfl | rfl | rfl | rfl <;> rfl

theorem revents_any (w : World) : Calls Try.prog 18 #[] w fun x w' => ∃ g, x = .returned (.slice (some ⟨g, 0, none⟩) 5 5) ∧ (∀ i : Nat, 1 ≤ i → i ≤ 5 → w'.cell? ⟨g, i - 1, none⟩ = some (.string (eventF i))) ∧ Below w.heap.size w w' := by
  go_enter Try.func18, Try.ntmps18
  go_wp2_with fail
  go_ret
  refine ⟨_, rfl, fun i h1 h5 => ?_, (Below.refl _ _).alloc (Nat.le_refl _) _⟩
  rw [cell_of_row _ _ (i - 1) _ _ _ (heap_alloc_new w _)]
  have : i = 1 ∨ i = 2 ∨ i = 3 ∨ i = 4 ∨ i = 5 := by omega
  rcases this with rfl | rfl | rfl | rfl | rfl <;> rfl

/-- The last of the first k words that it is. -/
def lastF (s : ByteArray) : Nat → Int × Int
  | 0 => (0, 15)
  | k + 1 => if wordF k = s then ((k : Int), 0) else lastF s k
theorem last_read (s : ByteArray) : lastF s 6 = readF s := by
  by_cases e0 : wordF 0 = s
  · subst e0; decide
  by_cases e1 : wordF 1 = s
  · subst e1; decide
  by_cases e2 : wordF 2 = s
  · subst e2; decide
  by_cases e3 : wordF 3 = s
  · subst e3; decide
  by_cases e4 : wordF 4 = s
  · subst e4; decide
  by_cases e5 : wordF 5 = s
  · subst e5; decide
  simp [lastF, readF, readK, e0, e1, e2, e3, e4, e5]
theorem read_word (m : Nat) (h : m ≤ 5) : readF (wordF m) = ((m : Int), 0) := by
  have : m = 0 ∨ m = 1 ∨ m = 2 ∨ m = 3 ∨ m = 4 ∨ m = 5 := by omega
  rcases this with rfl | rfl | rfl | rfl | rfl | rfl <;> decide

set_option maxHeartbeats 1000000 in
theorem words_low (n : Int) (h0 : n < 0) (s : ByteArray) (w : World) : Calls Try.prog 7 #[.int .i64 n, .string s] w fun x w' => x = .returned (.bool true) ∧ Below w.heap.size w w' := by
  have hbel : Below w.heap.size w w := Below.refl _ _
  have h1 : n < 1 := by omega
  have hw := wordF_out n (.inl h0)
  have hv : eventF n = ⟨#[]⟩ := if_pos (.inl h1)
  go_enter Try.func7, Try.ntmps7
  go_wp2_with (first
    | (go_at_call 17; refine (rwords_any _).mono ?_; rintro x W1 ⟨g, rfl, hg, hb1⟩; have HG := Lib.hid hg; clear hg; replace hbel := bthen hbel hb1; clear hb1))
  go_loop [7, 8, 10] (fun a b i => ∃ (k : Nat), k ≤ 6 ∧ i = .int .i64 k ∧ a = .int .i64 (lastF s k).1 ∧ b = .int .i64 (lastF s k).2) (fun _ _ i => 6 - (intOf i).toNat)
  case atStart => exact ⟨0, Nat.zero_le _, rfl, rfl, rfl⟩
  case round =>
    obtain ⟨k, hk, rfl, rfl, rfl⟩ := hrel
    by_cases hlt : k < 6
    · have hck := HG.out k hlt
      by_cases he : wordF (k : Int) = s
      · have hs : Hid (lastF s (k + 1) = ((k : Int), 0)) := by show _ = _; rw [lastF, if_pos he]
        go_wp2_with fail
        go_round
        case rel => exact ⟨k + 1, by omega, by go_num, by rw [hs.out], by rw [hs.out]⟩
        case measure => simp [intOf]; omega
      · have hs : Hid (lastF s (k + 1) = lastF s k) := by show _ = _; rw [lastF, if_neg he]
        have hq := str_ne he
        clear he
        go_wp2_with fail
        go_round
        case rel => exact ⟨k + 1, by omega, by go_num, by rw [hs.out], by rw [hs.out]⟩
        case measure => simp [intOf]; omega
    · have : k = 6 := by omega
      subst this
      rw [last_read]
      go_wp2_with (first
      | (go_at_call 19; refine (read_any _ _).mono ?_; rintro x W1 ⟨rfl, hb1⟩; replace hbel := bthen hbel hb1; clear hb1)
      | (go_at_call 10; refine (known_any _).mono ?_; rintro x W3 ⟨rfl, hb1⟩; replace hbel := bthen hbel hb1; clear hb1)
      | (go_at_call 20; refine (word_any _ _).mono ?_; rintro x W4 ⟨rfl, hb1⟩; replace hbel := bthen hbel hb1; clear hb1)
      | (go_at_call 21; refine (event_any _ _).mono ?_; rintro x W5 ⟨rfl, hb1⟩; replace hbel := bthen hbel hb1; clear hb1))
      go_ret
      exact ⟨ret_bool rfl, hbel⟩

set_option maxHeartbeats 1000000 in
theorem words_high (n : Int) (h5 : 5 < n) (s : ByteArray) (w : World) : Calls Try.prog 7 #[.int .i64 n, .string s] w fun x w' => x = .returned (.bool true) ∧ Below w.heap.size w w' := by
  have hbel : Below w.heap.size w w := Below.refl _ _
  have h0 : 0 ≤ n := by omega
  have h1 : 1 ≤ n := by omega
  have hw := wordF_out n (.inr h5)
  have hv : eventF n = ⟨#[]⟩ := if_pos (.inr h5)
  go_enter Try.func7, Try.ntmps7
  go_wp2_with (first
    | (go_at_call 17; refine (rwords_any _).mono ?_; rintro x W1 ⟨g, rfl, hg, hb1⟩; have HG := Lib.hid hg; clear hg; replace hbel := bthen hbel hb1; clear hb1))
  go_loop [7, 8, 10] (fun a b i => ∃ (k : Nat), k ≤ 6 ∧ i = .int .i64 k ∧ a = .int .i64 (lastF s k).1 ∧ b = .int .i64 (lastF s k).2) (fun _ _ i => 6 - (intOf i).toNat)
  case atStart => exact ⟨0, Nat.zero_le _, rfl, rfl, rfl⟩
  case round =>
    obtain ⟨k, hk, rfl, rfl, rfl⟩ := hrel
    by_cases hlt : k < 6
    · have hck := HG.out k hlt
      by_cases he : wordF (k : Int) = s
      · have hs : Hid (lastF s (k + 1) = ((k : Int), 0)) := by show _ = _; rw [lastF, if_pos he]
        go_wp2_with fail
        go_round
        case rel => exact ⟨k + 1, by omega, by go_num, by rw [hs.out], by rw [hs.out]⟩
        case measure => simp [intOf]; omega
      · have hs : Hid (lastF s (k + 1) = lastF s k) := by show _ = _; rw [lastF, if_neg he]
        have hq := str_ne he
        clear he
        go_wp2_with fail
        go_round
        case rel => exact ⟨k + 1, by omega, by go_num, by rw [hs.out], by rw [hs.out]⟩
        case measure => simp [intOf]; omega
    · have : k = 6 := by omega
      subst this
      rw [last_read]
      go_wp2_with (first
      | (go_at_call 19; refine (read_any _ _).mono ?_; rintro x W1 ⟨rfl, hb1⟩; replace hbel := bthen hbel hb1; clear hb1)
      | (go_at_call 10; refine (known_any _).mono ?_; rintro x W3 ⟨rfl, hb1⟩; replace hbel := bthen hbel hb1; clear hb1)
      | (go_at_call 20; refine (word_any _ _).mono ?_; rintro x W4 ⟨rfl, hb1⟩; replace hbel := bthen hbel hb1; clear hb1)
      | (go_at_call 21; refine (event_any _ _).mono ?_; rintro x W5 ⟨rfl, hb1⟩; replace hbel := bthen hbel hb1; clear hb1))
      go_ret
      exact ⟨ret_bool rfl, hbel⟩

set_option maxHeartbeats 1000000 in
theorem words_zero (m : Nat) (hm : m = 0) (s : ByteArray) (w : World) : Calls Try.prog 7 #[.int .i64 m, .string s] w fun x w' => x = .returned (.bool true) ∧ Below w.heap.size w w' := by
  have hbel : Below w.heap.size w w := Below.refl _ _
  subst hm
  rw [show ((0 : Nat) : Int) = 0 from rfl]
  have hv : eventF 0 = ⟨#[]⟩ := rfl
  have hr := read_word 0 (by omega)
  have hw := wordF_in 0 (by omega) (by omega)
  go_enter Try.func7, Try.ntmps7
  go_wp2_with (first
    | (go_at_call 17; refine (rwords_any _).mono ?_; rintro x W1 ⟨g, rfl, hg, hb1⟩; have hc1 := hg 0 (by omega); have HG := Lib.hid hg; clear hg; replace hbel := bthen hbel hb1; clear hb1))
  go_loop [7, 8, 10] (fun a b i => ∃ (k : Nat), k ≤ 6 ∧ i = .int .i64 k ∧ a = .int .i64 (lastF s k).1 ∧ b = .int .i64 (lastF s k).2) (fun _ _ i => 6 - (intOf i).toNat)
  case atStart => exact ⟨0, Nat.zero_le _, rfl, rfl, rfl⟩
  case round =>
    obtain ⟨k, hk, rfl, rfl, rfl⟩ := hrel
    by_cases hlt : k < 6
    · have hck := HG.out k hlt
      by_cases he : wordF (k : Int) = s
      · have hs : Hid (lastF s (k + 1) = ((k : Int), 0)) := by show _ = _; rw [lastF, if_pos he]
        go_wp2_with fail
        go_round
        case rel => exact ⟨k + 1, by omega, by go_num, by rw [hs.out], by rw [hs.out]⟩
        case measure => simp [intOf]; omega
      · have hs : Hid (lastF s (k + 1) = lastF s k) := by show _ = _; rw [lastF, if_neg he]
        have hq := str_ne he
        clear he
        go_wp2_with fail
        go_round
        case rel => exact ⟨k + 1, by omega, by go_num, by rw [hs.out], by rw [hs.out]⟩
        case measure => simp [intOf]; omega
    · have : k = 6 := by omega
      subst this
      rw [last_read]
      go_wp2_with (first
      | (go_at_call 19; refine (read_any _ _).mono ?_; rintro x W1 ⟨rfl, hb1⟩; replace hbel := bthen hbel hb1; clear hb1)
      | (go_at_call 10; refine (known_any _).mono ?_; rintro x W3 ⟨rfl, hb1⟩; replace hbel := bthen hbel hb1; clear hb1)
      | (go_at_call 20; refine (word_any _ _).mono ?_; rintro x W4 ⟨rfl, hb1⟩; replace hbel := bthen hbel hb1; clear hb1)
      | (go_at_call 21; refine (event_any _ _).mono ?_; rintro x W5 ⟨rfl, hb1⟩; replace hbel := bthen hbel hb1; clear hb1))
      go_ret
      exact ⟨ret_bool rfl, hbel⟩

set_option maxHeartbeats 1000000 in
theorem words_some (m : Nat) (h1 : 1 ≤ m) (h5 : m ≤ 5) (s : ByteArray) (w : World) : Calls Try.prog 7 #[.int .i64 m, .string s] w fun x w' => x = .returned (.bool true) ∧ Below w.heap.size w w' := by
  have hbel : Below w.heap.size w w := Below.refl _ _
  have g0 : (0 : Int) ≤ (m : Int) := by omega
  have g1 : (1 : Int) ≤ (m : Int) := by omega
  have g5 : (m : Int) ≤ 5 := by omega
  have hr := read_word m h5
  have hw := wordF_in m (by omega) (by omega)
  go_enter Try.func7, Try.ntmps7
  go_wp2_with (first
    | (go_at_call 17; refine (rwords_any _).mono ?_; rintro x W1 ⟨g, rfl, hg, hb1⟩; have hc1 := hg m (by omega); have HG := Lib.hid hg; clear hg; replace hbel := bthen hbel hb1; clear hb1)
    | (go_at_call 18; refine (revents_any _).mono ?_; rintro x W2 ⟨g, rfl, hg, hb1⟩; have hce := hg m (by omega) (by omega); clear hg; replace hbel := bthen hbel hb1; clear hb1))
  go_loop [7, 8, 10] (fun a b i => ∃ (k : Nat), k ≤ 6 ∧ i = .int .i64 k ∧ a = .int .i64 (lastF s k).1 ∧ b = .int .i64 (lastF s k).2) (fun _ _ i => 6 - (intOf i).toNat)
  case atStart => exact ⟨0, Nat.zero_le _, rfl, rfl, rfl⟩
  case round =>
    obtain ⟨k, hk, rfl, rfl, rfl⟩ := hrel
    by_cases hlt : k < 6
    · have hck := HG.out k hlt
      by_cases he : wordF (k : Int) = s
      · have hs : Hid (lastF s (k + 1) = ((k : Int), 0)) := by show _ = _; rw [lastF, if_pos he]
        go_wp2_with fail
        go_round
        case rel => exact ⟨k + 1, by omega, by go_num, by rw [hs.out], by rw [hs.out]⟩
        case measure => simp [intOf]; omega
      · have hs : Hid (lastF s (k + 1) = lastF s k) := by show _ = _; rw [lastF, if_neg he]
        have hq := str_ne he
        clear he
        go_wp2_with fail
        go_round
        case rel => exact ⟨k + 1, by omega, by go_num, by rw [hs.out], by rw [hs.out]⟩
        case measure => simp [intOf]; omega
    · have : k = 6 := by omega
      subst this
      rw [last_read]
      go_wp2_with (first
      | (go_at_call 19; refine (read_any _ _).mono ?_; rintro x W1 ⟨rfl, hb1⟩; replace hbel := bthen hbel hb1; clear hb1)
      | (go_at_call 10; refine (known_any _).mono ?_; rintro x W3 ⟨rfl, hb1⟩; replace hbel := bthen hbel hb1; clear hb1)
      | (go_at_call 20; refine (word_any _ _).mono ?_; rintro x W4 ⟨rfl, hb1⟩; replace hbel := bthen hbel hb1; clear hb1)
      | (go_at_call 21; refine (event_any _ _).mono ?_; rintro x W5 ⟨rfl, hb1⟩; replace hbel := bthen hbel hb1; clear hb1))
      go_ret
      exact ⟨ret_bool rfl, hbel⟩

theorem lifeWords_any (n : Int) (s : ByteArray) (w : World) : Calls Try.prog 7 #[.int .i64 n, .string s] w fun x w' => x = .returned (.bool true) ∧ Below w.heap.size w w' := by
  by_cases h0 : n < 0
  · exact words_low n h0 s w
  by_cases h5 : 5 < n
  · exact words_high n h5 s w
  obtain ⟨m, rfl⟩ : ∃ m : Nat, n = m := ⟨n.toNat, by omega⟩
  by_cases h1 : m = 0
  · exact words_zero m h1 s w
  · exact words_some m (by omega) (by omega) s w
end Go.Proofs.Ytnjipfnajgcibaa.lw
