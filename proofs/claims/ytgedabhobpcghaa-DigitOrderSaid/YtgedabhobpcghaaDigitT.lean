/-
  The walk of the law DigitOrder.
-/
import Derived.Test.YtgedabhobpcghaaDigitS
import Derived.Deep.RegionHeld3
import Derived.Deep.DeepCutAuto
import Derived.Deep.DrawnRows
namespace Go.Proofs.Ytgedabhobpcghaa.dw
open Go.RowKit Go.Proofs.Ytgedabhobpcghaa.ba Go.Proofs.Ytgedabhobpcghaa.dp Go.Proofs.Ytgedabhobpcghaa.bp
set_option linter.unusedVariables false
attribute [local go_sem ↓] Go.wp_at_zero Go.wp_at_succ

set_option maxRecDepth 100000 in
set_option maxHeartbeats 4000000 in
theorem digitOrder_any (A B : Nat) (hA : A < 18446744073709551616) (hB : B < 18446744073709551616) (a b : Option Addr) (la ca lb cb : Nat) (Za Zb : Nat → Int) (w : World) (hlc : la ≤ ca) (hcm : ca ≤ maxLen) (hlc2 : lb ≤ cb) (hcm2 : cb ≤ maxLen) (hI : Ints .u64 w a la Za) (hI2 : Ints .u64 w b lb Zb)
    (hZ : ∀ i, i < la → 0 ≤ Za i ∧ Za i ≤ 18446744073709551615) (hZ2 : ∀ i, i < lb → 0 ≤ Zb i ∧ Zb i ≤ 18446744073709551615) :
    Calls Try.prog 5 #[.int .u64 A, .int .u64 B, .slice a la ca, .slice b lb cb] w fun x w' => x = .returned (.bool true) ∧ Below w.heap.size w w' := by
  unfold maxLen at hcm hcm2
  obtain ⟨n, hn1, hn2, hn3, hn4⟩ : ∃ n : Nat, n ≤ 10 ∧ n ≤ la ∧ n ≤ lb ∧ Hid ((n : Int) = if (10 : Int) < (if (lb : Int) < (la : Int) then (lb : Int) else (la : Int)) then 10 else (if (lb : Int) < (la : Int) then (lb : Int) else (la : Int))) := by
    rcases Nat.lt_or_ge lb la with h | h
    · rcases Nat.lt_or_ge 10 lb with h2 | h2
      · exact ⟨10, Nat.le_refl _, by omega, by omega, by show _ = _; rw [if_pos (by omega : (lb : Int) < la), if_pos (by omega)]; rfl⟩
      · exact ⟨lb, by omega, by omega, by omega, by show _ = _; rw [if_pos (by omega : (lb : Int) < la), if_neg (by omega)]⟩
    · rcases Nat.lt_or_ge 10 la with h2 | h2
      · exact ⟨10, Nat.le_refl _, by omega, by omega, by show _ = _; rw [if_neg (by omega : ¬ (lb : Int) < la), if_pos (by omega)]; rfl⟩
      · exact ⟨la, by omega, by omega, by omega, by show _ = _; rw [if_neg (by omega : ¬ (lb : Int) < la), if_neg (by omega)]⟩
  have hL := Lst.of_ints (Ints.shorter hI hn2)
  have hM := Lst.of_ints (Ints.shorter hI2 hn3)
  have hlen := listOf_length Za n
  have hlen2 := listOf_length Zb n
  have hWd : Words (listOf Za n) := fun v hv => by
    simp [listOf] at hv
    obtain ⟨i, hi, rfl⟩ := hv
    exact hZ i (by omega)
  have hWd2 : Words (listOf Zb n) := fun v hv => by
    simp [listOf] at hv
    obtain ⟨i, hi, rfl⟩ := hv
    exact hZ2 i (by omega)
  obtain ⟨l, hl⟩ : ∃ l, l = listOf Za n := ⟨_, rfl⟩
  obtain ⟨m, hm⟩ : ∃ m, m = listOf Zb n := ⟨_, rfl⟩
  rw [← hl] at hL hlen hWd
  rw [← hm] at hM hlen2 hWd2
  clear hl hm hI hZ hI2 hZ2
  obtain ⟨C, sx, sy, X, Y, P0, P1, P2, P3, P4, P5, P6⟩ := order_pre A B hA hB
  obtain ⟨s, t, U, V, Q1, Q2, Q3, Q4, Q5⟩ := order_rows a b ca cb l m n hlen hlen2 hn1 w hWd hWd2 hL hM
  have HL := Lib.hid hlen; have HL2 := Lib.hid hlen2
  have hF := Lib.hid (firstU_bounds l m)
  have hbel : Below w.heap.size w w := Below.refl _ _
  clear hlen hlen2
  go_enter Try.func5, Try.ntmps5
  go_upto_region 3 with (first
    | (go_at_call 13; ((with_reducible refine (P1.out _).mono ?_); rintro x W1 ⟨a1, c1, rfl, hX1, hb1⟩; replace hbel := bthen hbel hb1; clear hb1))
    | (go_at_call 13; ((with_reducible refine (P2.out _).mono ?_); rintro x W2 ⟨a2, c2, rfl, hc2, hc3, hY2, hb1⟩; replace hbel := bthen hbel hb1; replace hX1 := P3.out _ _ _ hX1 hb1; clear hb1))
    | (go_at_call 16; ((with_reducible refine (P5.out _ _ _ _ _ hX1 hY2).mono ?_); rintro x W3 ⟨rfl, hb1⟩; replace hbel := bthen hbel hb1; replace hX1 := P3.out _ _ _ hX1 hb1; replace hY2 := P4.out _ _ _ hY2 hb1; clear hb1)))
  go_cut [54] (fun x wx => x = .bool false ∧ Below w.heap.size w wx)
  case first =>
    have s0 : (0 : Int) ≤ (sx : Int) := Int.natCast_nonneg _
    unfold maxLen at hc3
    rcases P0.out with ⟨h, hC⟩ | ⟨h, hC, hss⟩ | ⟨h, hC⟩
    · have f1 : C < 0 := by omega
      have f2 : (C == 0) = false := by simp; omega
      have f3 : (A : Int) < (B : Int) := by omega
      have f4 : ((A : Int) == (B : Int)) = false := by simp; omega
      clear hC h
      by_cases hs : sx < sy
      · have hs1 : (sx : Int) < (sy : Int) := by omega
        have hs2 : (sx : Int) ≤ (c2 : Int) := by omega
        go_wp2_with (go_at_call 15; ((with_reducible refine (P6.out hs _ _ _ _ _ hX1 hY2).mono ?_); rintro x W4 ⟨rfl, hb1⟩; replace hbel := bthen hbel hb1; clear hb1))
        go_meet
        exact ⟨rfl, hbel⟩
      · have hs1 : (sy : Int) ≤ (sx : Int) := by omega
        go_wp2_with fail
        go_meet
        exact ⟨rfl, hbel⟩
    · have f1 : 0 ≤ C := by omega
      have f2 : (C == 0) = true := by simp; omega
      have f3 : (B : Int) ≤ (A : Int) := by omega
      have f4 : ((A : Int) == (B : Int)) = true := by simp; omega
      have hs1 : (sy : Int) ≤ (sx : Int) := by omega
      clear hC h hss
      go_wp2_with fail
      go_meet
      exact ⟨rfl, hbel⟩
    · have f1 : 0 ≤ C := by omega
      have f2 : (C == 0) = false := by simp; omega
      have f3 : (B : Int) ≤ (A : Int) := by omega
      have f4 : ((A : Int) == (B : Int)) = false := by simp; omega
      clear hC h
      by_cases hs : sx < sy
      · have hs1 : (sx : Int) < (sy : Int) := by omega
        have hs2 : (sx : Int) ≤ (c2 : Int) := by omega
        go_wp2_with (go_at_call 15; ((with_reducible refine (P6.out hs _ _ _ _ _ hX1 hY2).mono ?_); rintro x W4 ⟨rfl, hb1⟩; replace hbel := bthen hbel hb1; clear hb1))
        go_meet
        exact ⟨rfl, hbel⟩
      · have hs1 : (sy : Int) ≤ (sx : Int) := by omega
        go_wp2_with fail
        go_meet
        exact ⟨rfl, hbel⟩
  case rest =>
    clear hbel
    obtain ⟨rfl, hbel⟩ := hcut
    clear hX1 hY2 P0 P1 P2 P3 P4 P5 P6
    go_upto_region 5 with fail
    go_cut [12] (fun x wx => x = .int .i64 (n : Int) ∧ Below w.heap.size w wx)
    case first =>
      have hn5 := hn4.out
      by_cases h : (lb : Int) < (la : Int)
      · rw [if_pos h] at hn5
        by_cases h2 : (10 : Int) < (lb : Int)
        · rw [if_pos h2] at hn5
          have H5 := Lib.hid hn5
          clear hn5
          go_wp2_with fail
          go_meet
          exact ⟨by rw [H5.out], hbel⟩
        · rw [if_neg h2] at hn5
          have H5 := Lib.hid hn5
          clear hn5
          go_wp2_with fail
          go_meet
          exact ⟨by rw [H5.out], hbel⟩
      · rw [if_neg h] at hn5
        by_cases h2 : (10 : Int) < (la : Int)
        · rw [if_pos h2] at hn5
          have H5 := Lib.hid hn5
          clear hn5
          go_wp2_with fail
          go_meet
          exact ⟨by rw [H5.out], hbel⟩
        · rw [if_neg h2] at hn5
          have H5 := Lib.hid hn5
          clear hn5
          go_wp2_with fail
          go_meet
          exact ⟨by rw [H5.out], hbel⟩
    case rest =>
      clear hbel
      obtain ⟨rfl, hbel⟩ := hcut
      clear hn4
      obtain ⟨F, hFF⟩ : ∃ F, F = firstU l m := ⟨_, rfl⟩
      rw [← hFF] at hF Q5
      have HF := Lib.hid hFF
      clear hFF
      go_wp2_with fail
      go_loopw [13, 14, 15] (fun v u i wr => ∃ (k : Nat) (V U : Bool), k ≤ n ∧ i = .int .i64 k ∧ v = .bool V ∧ u = .bool U ∧ Hid ((U = false ∧ V = false ∧ F = firstU (l.drop k) (m.drop k)) ∨ (U = true ∧ ((F = -1 ∧ V = true) ∨ (F = 1 ∧ V = false)))) ∧ Below w.heap.size w wr) (fun _ _ i _ => n - (intOf i).toNat)
      case atStart => exact ⟨0, false, false, Nat.zero_le _, rfl, rfl, rfl, .inl ⟨rfl, rfl, HF.out⟩, hbel⟩
      case round =>
        clear hbel
        obtain ⟨k, V2, U2, hk, rfl, rfl, rfl, hr, hbel⟩ := hrel
        by_cases hgo : U2 = false ∧ k < n
        · obtain ⟨rfl, hlt⟩ := hgo
          have hr2 : F = firstU (l.drop k) (m.drop k) := by
            rcases hr.out with ⟨_, _, h⟩ | ⟨h, _⟩
            · exact h
            · cases h
          obtain ⟨x, hx⟩ := some_at l (i := k) (by rw [HL.out]; exact hlt)
          obtain ⟨y, hy⟩ := some_at m (i := k) (by rw [HL2.out]; exact hlt)
          rw [drop_at hx, drop_at hy, firstU] at hr2
          obtain ⟨b0, off, rfl, c0⟩ := hL.at hx
          obtain ⟨b1, off1, rfl, c1⟩ := hM.at hy
          have d0 := bsome hbel c0 (World.block_lt_of_cell? _ _ c0)
          have d1 := bsome hbel c1 (World.block_lt_of_cell? _ _ c1)
          have hk0 : (0 : Int) ≤ (k : Int) := Int.natCast_nonneg _
          have hk1 : (k : Int) < (n : Int) := by omega
          have hk2 : (k : Int) < (la : Int) := by omega
          have hk3 : (k : Int) < (lb : Int) := by omega
          have HR : Hid ((x != y) = false ∧ decide (x < y) = false ∧ F = firstU (l.drop (k + 1)) (m.drop (k + 1)) ∨ (x != y) = true ∧ ((F = -1 ∧ decide (x < y) = true) ∨ (F = 1 ∧ decide (x < y) = false))) := by
            show _ ∨ _
            by_cases h1 : x < y
            · rw [if_pos h1] at hr2
              exact .inr ⟨by simp; omega, .inl ⟨hr2, by simpa using h1⟩⟩
            · rw [if_neg h1] at hr2
              by_cases h2 : y < x
              · rw [if_pos h2] at hr2
                exact .inr ⟨by simp; omega, .inr ⟨hr2, by simpa using h1⟩⟩
              · rw [if_neg h2] at hr2
                exact .inl ⟨by simp; omega, by simpa using h1, hr2⟩
          clear hr2 hx hy c0 c1 hr
          go_wp2_with fail
          go_quiet (fail)
          go_wp2_with fail
          go_quiet (fail)
          go_wp2_with fail
          go_roundw
          case rel => exact ⟨k + 1, _, _, by omega, by go_num, rfl, rfl, HR.out, bdrew hbel _⟩
          case measure => simp [intOf]; omega
        · have HE : Hid ((F = -1 ∧ V2 = true ∧ U2 = true) ∨ (F = 0 ∧ V2 = false ∧ U2 = false ∧ k = n) ∨ (F = 1 ∧ V2 = false ∧ U2 = true)) := by
            show _ ∨ _
            rcases hr.out with ⟨h1, h2, h3⟩ | ⟨h1, ⟨h2, h3⟩ | ⟨h2, h3⟩⟩
            · have hkn : k = n := by
                rcases Nat.lt_or_ge k n with h | h
                · exact absurd ⟨h1, h⟩ hgo
                · omega
              refine .inr (.inl ⟨?_, h2, h1, hkn⟩)
              rw [h3, List.drop_eq_nil_of_le (by rw [HL.out]; omega)]
              rfl
            · exact .inl ⟨h2, h3, h1⟩
            · exact .inr (.inr ⟨h2, h3, h1⟩)
          have z1 : (0 : Int) ≤ (n : Int) := Int.natCast_nonneg _
          have z2 : (n : Int) ≤ (ca : Int) := by omega
          have z3 : (n : Int) ≤ (cb : Int) := by omega
          clear hr hgo
          have e0 : ((-1 : Int) == 0) = false := by decide
          have e1 : ((1 : Int) == 0) = false := by decide
          rcases HE.out with ⟨rfl, rfl, rfl⟩ | ⟨rfl, rfl, rfl, rfl⟩ | ⟨rfl, rfl, rfl⟩
          · by_cases hkn : k < n
            all_goals
              go_wp2_with fail
              go_region_held3 (fun w' => Below w.heap.size w w') (first | assumption | exact bdrw hbel)
                (first
                  | (go_at_call 13; ((with_reducible refine (Q1.out _ (by first | assumption | exact bdrw hbel)).mono ?_); rintro x W1 ⟨a1, c1, rfl, hX1, hbA, hb1⟩; (try replace hX2 := Q4.out _ _ _ hX2 hb1); clear hb1))
                  | (go_at_call 13; ((with_reducible refine (Q2.out _ (by first | assumption | exact bdrw hbel)).mono ?_); rintro x W2 ⟨a2, c2, rfl, hX2, hbB, hb2⟩; (try replace hX1 := Q3.out _ _ _ hX1 hb2); clear hb2))
                  | (go_at_call 16; ((with_reducible refine (Q5.out _ (by assumption) _ _ _ _ hX1 hX2).mono ?_); rintro x W3 ⟨rfl, hbC⟩)))
              all_goals
                go_wp2_with (go_at_call 12; refine (known_any _).mono ?_; rintro x W5 ⟨rfl, hb5⟩; have hbD := bthen hbC hb5)
                go_ret
                exact ⟨ret_bool (by simp), hbD⟩
          · have hkn : (k : Int) ≥ (k : Int) := Int.le_refl _
            go_wp2_with fail
            go_region_held3 (fun w' => Below w.heap.size w w') (first | assumption | exact bdrw hbel)
              (first
                | (go_at_call 13; ((with_reducible refine (Q1.out _ (by first | assumption | exact bdrw hbel)).mono ?_); rintro x W1 ⟨a1, c1, rfl, hX1, hbA, hb1⟩; (try replace hX2 := Q4.out _ _ _ hX2 hb1); clear hb1))
                | (go_at_call 13; ((with_reducible refine (Q2.out _ (by first | assumption | exact bdrw hbel)).mono ?_); rintro x W2 ⟨a2, c2, rfl, hX2, hbB, hb2⟩; (try replace hX1 := Q3.out _ _ _ hX1 hb2); clear hb2))
                | (go_at_call 16; ((with_reducible refine (Q5.out _ (by assumption) _ _ _ _ hX1 hX2).mono ?_); rintro x W3 ⟨rfl, hbC⟩)))
            all_goals
              go_wp2_with (go_at_call 12; refine (known_any _).mono ?_; rintro x W5 ⟨rfl, hb5⟩; have hbD := bthen hbC hb5)
              go_ret
              exact ⟨ret_bool (by simp), hbD⟩
          · by_cases hkn : k < n
            all_goals
              go_wp2_with fail
              go_region_held3 (fun w' => Below w.heap.size w w') (first | assumption | exact bdrw hbel)
                (first
                  | (go_at_call 13; ((with_reducible refine (Q1.out _ (by first | assumption | exact bdrw hbel)).mono ?_); rintro x W1 ⟨a1, c1, rfl, hX1, hbA, hb1⟩; (try replace hX2 := Q4.out _ _ _ hX2 hb1); clear hb1))
                  | (go_at_call 13; ((with_reducible refine (Q2.out _ (by first | assumption | exact bdrw hbel)).mono ?_); rintro x W2 ⟨a2, c2, rfl, hX2, hbB, hb2⟩; (try replace hX1 := Q3.out _ _ _ hX1 hb2); clear hb2))
                  | (go_at_call 16; ((with_reducible refine (Q5.out _ (by assumption) _ _ _ _ hX1 hX2).mono ?_); rintro x W3 ⟨rfl, hbC⟩)))
              all_goals
                go_wp2_with (go_at_call 12; refine (known_any _).mono ?_; rintro x W5 ⟨rfl, hb5⟩; have hbD := bthen hbC hb5)
                go_ret
                exact ⟨ret_bool (by simp), hbD⟩
end Go.Proofs.Ytgedabhobpcghaa.dw
