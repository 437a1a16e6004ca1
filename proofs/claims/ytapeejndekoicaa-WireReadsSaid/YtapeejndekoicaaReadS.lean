/-
  The walks of layer 2 that other layers want: small bytes read.
-/
import Derived.Test.YtapeejndekoicaaDigitPlainC
import Derived.Test.YtapeejndekoicaaDigitLawsB
import Derived.Test.YtapeejndekoicaaSame
import Derived.Deep.LoopGhost
namespace Go.Proofs.Ytapeejndekoicaa.dw
open Go.RowKit Go.Proofs.Ytapeejndekoicaa.ba Go.Proofs.Ytapeejndekoicaa.dp
set_option linter.unusedVariables false

theorem take_succ_at {l : List Int} {k : Nat} {v : Int} (h : l[k]? = some v) : l.take (k + 1) = l.take k ++ [v] := by
  obtain ⟨hi, rfl⟩ := List.getElem?_eq_some_iff.1 h
  exact List.take_succ_eq_append_getElem hi

set_option maxHeartbeats 1000000 in
theorem readS_any (a : Option Addr) (cap : Nat) (l : List Int) (w : World) (hlc : l.length ≤ cap) (hl : cap ≤ 9223372036854775807) (hB : Bytes l) (hX : Lst .u8 w a l) :
    Calls Try.prog 43 #[.slice a l.length cap] w fun e w' => e = .returned (.tuple #[.int .u64 (readS l).1, .int .i64 (readS l).2.1, .int .i64 (readS l).2.2]) ∧ Below w.heap.size w w' := by
  have hl2 : l.length ≤ 9223372036854775807 := by omega
  unfold readS
  go_enter Try.func43, Try.ntmps43
  go_wp2_with fail
  go_step3
  go_wp2_with fail
  go_step3
  go_wp2_with fail
  go_loopg [5, 6, 7, 12] l.length (fun g v s y i wr => ∃ (k : Nat) (n : Int), k + g = l.length ∧ k ≤ 9 ∧ s = .int .i64 0 ∧ y = .int .i64 4 ∧ i = .int .i64 k ∧ v = .int .u64 n ∧ 0 ≤ n ∧ n < pw k ∧ Hid (rsF l 0 0 = rsF (l.drop k) k n) ∧ wr = w)
  case atStart => exact ⟨0, 0, by omega, by omega, rfl, rfl, rfl, rfl, by omega, by decide, rfl, rfl⟩
  case round =>
    obtain ⟨k, n, hkg, hk9, rfl, rfl, rfl, rfl, n0, n1, hr, rfl⟩ := hrel
    by_cases hlt : k < l.length
    · obtain ⟨x, hx⟩ := some_at l hlt
      have hxb := hB.at hx
      obtain ⟨b, off, rfl, c0⟩ := hX.at hx
      have hst : rsF (l.drop k) k n = rsF (x :: l.drop (k + 1)) k n := by rw [drop_at hx]
      rw [rsF] at hst
      by_cases h9 : k = 9
      · have h9' : ((k : Int) == 9) = true := by simp; omega
        have h0' : (0 : Int) < (k : Int) := by omega
        have hp9 : pw k = 9223372036854775808 := by rw [h9]; exact pw_nine
        by_cases h1 : 1 < x
        · have hs2 : Hid (rsF (l.drop k) k n = (0, 0, 3)) := by show _ = _; rw [hst, if_pos (.inl ⟨h9, h1⟩)]
          clear hst h9 hp9
          go_wp2_with fail
          try rw [Exit.noGoto_ret]
          go_ret3
          exact ⟨by rw [hr.out, hs2.out]; rfl, Below.refl _ _⟩
        · have h1' : x ≤ 1 := by omega
          by_cases hz : x = 0
          · have hs2 : Hid (rsF (l.drop k) k n = (0, 0, 3)) := by show _ = _; rw [hst, if_pos (.inr ⟨by omega, hz⟩)]
            have hz' : (x == 0) = true := by simpa using hz
            clear hst h9 hp9 hz h1
            go_wp2_with fail
            try rw [Exit.noGoto_ret]
            go_ret3
            exact ⟨by rw [hr.out, hs2.out]; rfl, Below.refl _ _⟩
          · have hz' : (x == 0) = false := by simpa using hz
            have hxm : x % 128 = x := by omega
            have hs2 : Hid (rsF (l.drop k) k n = (n + x % 128 * pw k, (k : Int) + 1, 0)) := by show _ = _; rw [hst, if_neg (by omega), if_pos (by omega), hxm]
            have hv : x % 128 * pw k + pw k ≤ 18446744073709551616 := by rw [hp9]; omega
            have hs : x < 128 := by omega
            have HV := Lib.hid hv
            clear hst h9 hp9 hz h1 hv hxm
            go_wp2_with fail
            try rw [Exit.noGoto_ret]
            go_ret3
            exact ⟨by rw [hr.out, hs2.out, or_step n x k n0 n1 hxb.1 hxb.2 HV.out]; rfl, Below.refl _ _⟩
      · have h9' : ((k : Int) == 9) = false := by simp; omega
        have hpl := pw_le k (by omega)
        have hpp := pw_pos k
        have hv : x % 128 * pw k + pw k ≤ 18446744073709551616 := by
          have : x % 128 * pw k ≤ 127 * pw k := Int.mul_le_mul_of_nonneg_right (by omega) (by omega)
          omega
        have HV := Lib.hid hv
        have hnext : x % 128 * pw k ≤ 127 * pw k := Int.mul_le_mul_of_nonneg_right (by omega) (by omega)
        have hnn : 0 ≤ x % 128 * pw k := Int.mul_nonneg (by omega) (by omega)
        have HN := Lib.hid (And.intro hnn (And.intro hnext hpp))
        clear hv hpl hpp hnext hnn
        by_cases hs : x < 128
        · have hxm : x % 128 = x := by omega
          by_cases h0 : k = 0
          · have h0' : (k : Int) = 0 := by omega
            have hs2 : Hid (rsF (l.drop k) k n = (n + x % 128 * pw k, (k : Int) + 1, 0)) := by show _ = _; rw [hst, if_neg (by omega), if_pos hs, hxm]
            have h0'' : (k : Int) ≤ 0 := by omega
            clear hst h9 hxm h0 h0'
            go_wp2_with fail
            try rw [Exit.noGoto_ret]
            go_ret3
            exact ⟨by rw [hr.out, hs2.out, or_step n x k n0 n1 hxb.1 hxb.2 HV.out]; rfl, Below.refl _ _⟩
          · have h0' : (0 : Int) < (k : Int) := by omega
            by_cases hz : x = 0
            · have hs2 : Hid (rsF (l.drop k) k n = (0, 0, 3)) := by show _ = _; rw [hst, if_pos (.inr ⟨by omega, hz⟩)]
              have hz' : (x == 0) = true := by simpa using hz
              clear hst h9 hz hxm
              go_wp2_with fail
              try rw [Exit.noGoto_ret]
              go_ret3
              exact ⟨by rw [hr.out, hs2.out]; rfl, Below.refl _ _⟩
            · have hz' : (x == 0) = false := by simpa using hz
              have hs2 : Hid (rsF (l.drop k) k n = (n + x % 128 * pw k, (k : Int) + 1, 0)) := by show _ = _; rw [hst, if_neg (by omega), if_pos hs, hxm]
              clear hst h9 hz hxm
              go_wp2_with fail
              try rw [Exit.noGoto_ret]
              go_ret3
              exact ⟨by rw [hr.out, hs2.out, or_step n x k n0 n1 hxb.1 hxb.2 HV.out]; rfl, Below.refl _ _⟩
        · have hxm : x % 128 = x - 128 := by omega
          have hz' : (x == 0) = false := by simp; omega
          have hs2 : Hid (rsF (l.drop k) k n = rsF (l.drop (k + 1)) (k + 1) (n + x % 128 * pw k)) := by show _ = _; rw [hst, if_neg (by omega), if_neg hs, hxm]
          have hs' : 128 ≤ x := by omega
          have hk8 : k ≤ 8 := by omega
          clear hst h9 hxm hs
          go_wp2_with fail
          all_goals
            go_roundg (gk - 1)
            case measure => omega
            case rel =>
              have := HN.out
              exact ⟨k + 1, n + x % 128 * pw k, by omega, by omega, rfl, rfl, by go_num, by rw [or_step n x k n0 n1 hxb.1 hxb.2 HV.out], by omega, by rw [pw_succ]; omega, by show _ = _; rw [hr.out, hs2.out], rfl⟩
    · have : k = l.length := by omega
      have hs2 : Hid (rsF (l.drop k) k n = (0, 0, 4)) := by show _ = _; rw [drop_nil (by omega)]; rfl
      subst this
      go_wp2_with fail
      try rw [Exit.noGoto_ret]
      go_ret3
      exact ⟨by rw [hr.out, hs2.out]; rfl, Below.refl _ _⟩

set_option maxHeartbeats 1000000 in
theorem rreadS_any (a : Option Addr) (cap : Nat) (l : List Int) (w : World) (hlc : l.length ≤ cap) (hl : cap ≤ 9223372036854775807) (hB : Bytes l) (hX : Lst .u8 w a l) :
    Calls Try.prog 36 #[.slice a l.length cap] w fun e w' => e = .returned (.tuple #[.int .u64 (readS l).1, .int .i64 (readS l).2.1, .int .i64 (readS l).2.2]) ∧ Below w.heap.size w w' := by
  have hl2 : l.length ≤ 9223372036854775807 := by omega
  unfold readS
  go_enter Try.func36, Try.ntmps36
  go_wp2_with fail
  go_loopg [5, 6, 7] l.length (fun g v p i wr => ∃ (k : Nat) (n : Int), k + g = l.length ∧ k ≤ 9 ∧ i = .int .i64 k ∧ v = .int .u64 n ∧ p = .int .u64 (pw k) ∧ 0 ≤ n ∧ n < pw k ∧ Hid (rsF l 0 0 = rsF (l.drop k) k n) ∧ wr = w)
  case atStart => exact ⟨0, 0, by omega, by omega, rfl, rfl, rfl, by omega, by decide, rfl, rfl⟩
  case round =>
    obtain ⟨k, n, hkg, hk9, rfl, rfl, rfl, n0, n1, hr, rfl⟩ := hrel
    by_cases hlt : k < l.length
    · obtain ⟨x, hx⟩ := some_at l hlt
      have hxb := hB.at hx
      obtain ⟨b, off, rfl, c0⟩ := hX.at hx
      have hst : rsF (l.drop k) k n = rsF (x :: l.drop (k + 1)) k n := by rw [drop_at hx]
      rw [rsF] at hst
      by_cases h9 : k = 9
      · have h9' : ((k : Int) == 9) = true := by simp; omega
        have h0' : (0 : Int) < (k : Int) := by omega
        have hp9 : pw k = 9223372036854775808 := by rw [h9]; exact pw_nine
        by_cases h1 : 1 < x
        · have hs2 : Hid (rsF (l.drop k) k n = (0, 0, 3)) := by show _ = _; rw [hst, if_pos (.inl ⟨h9, h1⟩)]
          clear hst h9 hp9
          go_wp2_with fail
          try rw [Exit.noGoto_ret]
          go_ret3
          exact ⟨by rw [hr.out, hs2.out]; first | rfl | (rw [mul_step n x k n0 n1 HV.out]; rfl), Below.refl _ _⟩
        · have h1' : x ≤ 1 := by omega
          by_cases hz : x = 0
          · have hs2 : Hid (rsF (l.drop k) k n = (0, 0, 3)) := by show _ = _; rw [hst, if_pos (.inr ⟨by omega, hz⟩)]
            have hz' : (x == 0) = true := by simpa using hz
            clear hst h9 hp9 hz h1
            go_wp2_with fail
            try rw [Exit.noGoto_ret]
            go_ret3
            exact ⟨by rw [hr.out, hs2.out]; first | rfl | (rw [mul_step n x k n0 n1 HV.out]; rfl), Below.refl _ _⟩
          · have hz' : (x == 0) = false := by simpa using hz
            have hxm : x % 128 = x := by omega
            have hs2 : Hid (rsF (l.drop k) k n = (n + x % 128 * pw k, (k : Int) + 1, 0)) := by show _ = _; rw [hst, if_neg (by omega), if_pos (by omega), hxm]
            have hv : x % 128 * pw k + pw k ≤ 18446744073709551616 := by rw [hp9]; omega
            have hs : x < 128 := by omega
            have HV := Lib.hid hv
            clear hst h9 hp9 hz h1 hv hxm
            go_wp2_with fail
            try rw [Exit.noGoto_ret]
            go_ret3
            exact ⟨by rw [hr.out, hs2.out]; first | rfl | (rw [mul_step n x k n0 n1 HV.out]; rfl), Below.refl _ _⟩
      · have h9' : ((k : Int) == 9) = false := by simp; omega
        have hpl := pw_le k (by omega)
        have hpp := pw_pos k
        have hv : x % 128 * pw k + pw k ≤ 18446744073709551616 := by
          have : x % 128 * pw k ≤ 127 * pw k := Int.mul_le_mul_of_nonneg_right (by omega) (by omega)
          omega
        have HV := Lib.hid hv
        have hnext : x % 128 * pw k ≤ 127 * pw k := Int.mul_le_mul_of_nonneg_right (by omega) (by omega)
        have hnn : 0 ≤ x % 128 * pw k := Int.mul_nonneg (by omega) (by omega)
        have HN := Lib.hid (And.intro hnn (And.intro hnext hpp))
        clear hv hpl hpp hnext hnn
        by_cases hs : x < 128
        · have hxm : x % 128 = x := by omega
          by_cases h0 : k = 0
          · have h0' : (k : Int) = 0 := by omega
            have hs2 : Hid (rsF (l.drop k) k n = (n + x % 128 * pw k, (k : Int) + 1, 0)) := by show _ = _; rw [hst, if_neg (by omega), if_pos hs, hxm]
            have h0'' : (k : Int) ≤ 0 := by omega
            clear hst h9 hxm h0 h0'
            go_wp2_with fail
            try rw [Exit.noGoto_ret]
            go_ret3
            exact ⟨by rw [hr.out, hs2.out]; first | rfl | (rw [mul_step n x k n0 n1 HV.out]; rfl), Below.refl _ _⟩
          · have h0' : (0 : Int) < (k : Int) := by omega
            by_cases hz : x = 0
            · have hs2 : Hid (rsF (l.drop k) k n = (0, 0, 3)) := by show _ = _; rw [hst, if_pos (.inr ⟨by omega, hz⟩)]
              have hz' : (x == 0) = true := by simpa using hz
              clear hst h9 hz hxm
              go_wp2_with fail
              try rw [Exit.noGoto_ret]
              go_ret3
              exact ⟨by rw [hr.out, hs2.out]; first | rfl | (rw [mul_step n x k n0 n1 HV.out]; rfl), Below.refl _ _⟩
            · have hz' : (x == 0) = false := by simpa using hz
              have hs2 : Hid (rsF (l.drop k) k n = (n + x % 128 * pw k, (k : Int) + 1, 0)) := by show _ = _; rw [hst, if_neg (by omega), if_pos hs, hxm]
              clear hst h9 hz hxm
              go_wp2_with fail
              try rw [Exit.noGoto_ret]
              go_ret3
              exact ⟨by rw [hr.out, hs2.out]; first | rfl | (rw [mul_step n x k n0 n1 HV.out]; rfl), Below.refl _ _⟩
        · have hxm : x % 128 = x - 128 := by omega
          have hz' : (x == 0) = false := by simp; omega
          have hs2 : Hid (rsF (l.drop k) k n = rsF (l.drop (k + 1)) (k + 1) (n + x % 128 * pw k)) := by show _ = _; rw [hst, if_neg (by omega), if_neg hs, hxm]
          have hs' : 128 ≤ x := by omega
          have hk8 : k ≤ 8 := by omega
          clear hst h9 hxm hs
          go_wp2_with fail
          all_goals
            go_roundg (gk - 1)
            case measure => omega
            case rel =>
              have := HN.out
              exact ⟨k + 1, n + x % 128 * pw k, by omega, by omega, by go_num, by rw [mul_step n x k n0 n1 HV.out], by rw [pw_step k hk8], by omega, by rw [pw_succ]; omega, by show _ = _; rw [hr.out, hs2.out], rfl⟩
    · have : k = l.length := by omega
      have hs2 : Hid (rsF (l.drop k) k n = (0, 0, 4)) := by show _ = _; rw [drop_nil (by omega)]; rfl
      subst this
      go_wp2_with fail
      try rw [Exit.noGoto_ret]
      go_ret3
      exact ⟨by rw [hr.out, hs2.out]; first | rfl | (rw [mul_step n x k n0 n1 HV.out]; rfl), Below.refl _ _⟩
end Go.Proofs.Ytapeejndekoicaa.dw
