/-
  The walk of the law DigitBack.
-/
import Derived.Test.YtgedabhobpcghaaDigitU
import Derived.Test.YtgedabhobpcghaaTake
import Derived.Deep.RegionHeld3
import Derived.Deep.RegionWith
import Derived.Deep.DeepCutAuto
import Derived.Deep.DrawnRows
namespace Go.Proofs.Ytgedabhobpcghaa.dw
open Go.RowKit Go.Proofs.Ytgedabhobpcghaa.ba Go.Proofs.Ytgedabhobpcghaa.dp Go.Proofs.Ytgedabhobpcghaa.bp
set_option linter.unusedVariables false
set_option linter.unusedSimpArgs false
attribute [local go_sem ↓] Go.wp_at_zero Go.wp_at_succ

theorem drew_alloc (w : World) (o : Obj) : w.drew.alloc o = (w.alloc o).drew := rfl
theorem drew_heap (w : World) : w.drew.heap = w.heap := rfl
/-- A slice of bytes that reads as a list. -/
def Sl (w : World) (v : Value) (l : List Int) : Prop := ∃ a n c, v = .slice a n c ∧ Hid (n = l.length) ∧ n ≤ c ∧ c ≤ maxLen ∧ Lst .u8 w a l
theorem Sl.below {w w' : World} {v : Value} {l : List Int} (h : Sl w v l) (hb : Below w.heap.size w w') : Sl w' v l := by
  obtain ⟨a, n, c, h1, h2, h3, h4, h5⟩ := h
  exact ⟨a, n, c, h1, h2, h3, h4, h5.below hb⟩

set_option maxRecDepth 100000 in
set_option maxHeartbeats 40000000 in
theorem digitBack_any (a b : Option Addr) (la ca lb cb : Nat) (Za Zb : Nat → Int) (w : World) (hlc : la ≤ ca) (hcm : ca ≤ maxLen) (hlc2 : lb ≤ cb) (hcm2 : cb ≤ maxLen) (hI : Ints .u64 w a la Za) (hI2 : Ints .u8 w b lb Zb)
    (hZ : ∀ i, i < la → 0 ≤ Za i ∧ Za i ≤ 18446744073709551615) (hZ2 : ∀ i, i < lb → 0 ≤ Zb i ∧ Zb i ≤ 255) :
    Calls Try.prog 4 #[.slice a la ca, .slice b lb cb] w fun x w' => x = .returned (.bool true) ∧ Below w.heap.size w w' := by
  unfold maxLen at hcm hcm2
  obtain ⟨n, hn1, hn2, hn3⟩ : ∃ n : Nat, n ≤ 20 ∧ n ≤ la ∧ Hid (n = if (la : Int) ≤ 20 then la else 20) := by
    by_cases h : (la : Int) ≤ 20
    · exact ⟨la, by omega, Nat.le_refl _, by show _ = _; rw [if_pos h]⟩
    · exact ⟨20, Nat.le_refl _, by omega, by show _ = _; rw [if_neg h]⟩
  obtain ⟨m, hm1, hm2, hm3⟩ : ∃ n : Nat, n ≤ 20 ∧ n ≤ lb ∧ Hid (n = if (lb : Int) ≤ 20 then lb else 20) := by
    by_cases h : (lb : Int) ≤ 20
    · exact ⟨lb, by omega, Nat.le_refl _, by show _ = _; rw [if_pos h]⟩
    · exact ⟨20, Nat.le_refl _, by omega, by show _ = _; rw [if_neg h]⟩
  have hL := Lst.of_ints (Ints.shorter hI hn2)
  have hM := Lst.of_ints (Ints.shorter hI2 hm2)
  have hlen := listOf_length Za n
  have hWd : Words (listOf Za n) := fun v hv => by
    simp [listOf] at hv
    obtain ⟨i, hi, rfl⟩ := hv
    exact hZ i (by omega)
  have hBd : Bytes (listOf Zb m) := fun v hv => by
    simp [listOf] at hv
    obtain ⟨i, hi, rfl⟩ := hv
    exact hZ2 i (by omega)
  have hO := backO w b (listOf Zb m) m cb (listOf_length Zb m) (by omega) (by omega) hBd hM
  have hS := backS w b (listOf Zb m) m cb (listOf_length Zb m) (by omega) (by omega) hBd hM
  obtain ⟨l, hl⟩ : ∃ l, l = listOf Za n := ⟨_, rfl⟩
  rw [← hl] at hL hlen hWd
  clear hl hI hZ hI2 hZ2 hBd hM
  have hmk1 := Lib.hid fun (w2 : World) (hb : Below w.heap.size w w2) => (ordered_any a ca l w2 (by omega) hWd (hL.below hb))
  have hmk2 := Lib.hid fun (w2 : World) (hb : Below w.heap.size w w2) => (small_any a ca l w2 (by omega) hWd (hL.below hb))
  rw [hlen] at hmk1 hmk2
  have hbO := ordR_len l hWd
  have hbS := smaR_len l
  have HL := Lib.hid hlen
  rw [hlen] at hbO hbS
  obtain ⟨sx, hsx⟩ : ∃ n, n = (ordR l).length := ⟨_, rfl⟩
  obtain ⟨sy, hsy⟩ : ∃ n, n = (smaR l).length := ⟨_, rfl⟩
  have Hsx := Lib.hid hsx; have Hsy := Lib.hid hsy
  clear hlen hsx hsy hbO hbS
  go_enter Try.func4, Try.ntmps4
  go_upto_region 1 with fail
  go_cut [0, 1] (fun x y wx => x = .slice a n ca ∧ y = .slice b m cb ∧ Below w.heap.size w wx)
  case first =>
    by_cases h : (la : Int) ≤ 20
    · have e : n = la := by rw [hn3.out, if_pos h]
      subst e
      by_cases h2 : (lb : Int) ≤ 20
      · have e2 : m = lb := by rw [hm3.out, if_pos h2]
        subst e2
        go_quiet (fail)
        go_wp2_with fail
        go_meet
        exact ⟨rfl, rfl, bdrew (Below.refl _ _) _⟩
      · have e2 : m = 20 := by rw [hm3.out, if_neg h2]
        subst e2
        have h2' : (20 : Int) < (lb : Int) := by omega
        clear h2
        go_quiet (fail)
        go_wp2_with fail
        go_meet
        exact ⟨rfl, rfl, bdrew (Below.refl _ _) _⟩
    · have e : n = 20 := by rw [hn3.out, if_neg h]
      subst e
      have h' : (20 : Int) < (la : Int) := by omega
      clear h
      by_cases h2 : (lb : Int) ≤ 20
      · have e2 : m = lb := by rw [hm3.out, if_pos h2]
        subst e2
        go_quiet (fail)
        go_wp2_with fail
        go_meet
        exact ⟨rfl, rfl, bdrew (Below.refl _ _) _⟩
      · have e2 : m = 20 := by rw [hm3.out, if_neg h2]
        subst e2
        have h2' : (20 : Int) < (lb : Int) := by omega
        clear h2
        go_quiet (fail)
        go_wp2_with fail
        go_meet
        exact ⟨rfl, rfl, bdrew (Below.refl _ _) _⟩
  case rest =>
    obtain ⟨rfl, rfl, hbel⟩ := hcut
    go_wp2_with (first
      | (go_at_call 13; ((with_reducible refine (hmk1.out _ hbel).mono ?_); rintro x W1 ⟨a1, c1, rfl, hown1, hb1⟩; replace hbel := bthen hbel hb1; clear hb1))
      | (go_at_call 14; ((with_reducible refine (hmk2.out _ hbel).mono ?_); rintro x W2 ⟨a2, c2, rfl, hown2, hb2⟩; replace hbel := bthen hbel hb2)))
    obtain ⟨_, _, he1, g1, g2⟩ := own_form hown1
    cases he1
    obtain ⟨_, _, he2, g3, g4⟩ := own_form hown2
    cases he2
    have hL1 := (Lst.own hown1).below hb2
    have hL2 := Lst.own hown2
    clear hown1 hown2 hb2
    go_loopw [5, 6, 7] (fun x y i wr => ∃ k : Nat, k ≤ n ∧ i = .int .i64 k ∧ Sl wr x (ordR (l.drop k)) ∧ Sl wr y (smaR (l.drop k)) ∧ Below w.heap.size w wr) (fun _ _ i _ => n - (intOf i).toNat)
    case atStart => exact ⟨0, Nat.zero_le _, rfl, ⟨_, _, _, rfl, rfl, g1, g2, hL1⟩, ⟨_, _, _, rfl, rfl, g3, g4, hL2⟩, hbel⟩
    case round =>
      obtain ⟨k, hk, rfl, ⟨ax, nx, cx, rfl, hnx, hcx, hmx, hLx⟩, ⟨ay, ny, cy, rfl, hny, hcy, hmy, hLy⟩, hbel⟩ := hrel
      by_cases hlt : k < n
      · obtain ⟨x, hx⟩ := some_at l (i := k) (by rw [HL.out]; exact hlt)
        have hxb := hWd x (List.mem_of_getElem? hx)
        obtain ⟨X, rfl⟩ := Int.eq_ofNat_of_zero_le hxb.1
        obtain ⟨b0, off, rfl, c0⟩ := hL.at hx
        have d0 := bsome hbel c0 (World.block_lt_of_cell? _ _ c0)
        have eO : ordR (l.drop k) = ordL X ++ ordR (l.drop (k + 1)) := by rw [drop_at hx]; simp [ordR]
        have eS : smaR (l.drop k) = smaL X ++ smaR (l.drop (k + 1)) := by rw [drop_at hx]; simp [smaR]
        rw [eO] at hnx hLx
        rw [eS] at hny hLy
        obtain ⟨k1, j1, a', b', n', ca', m', cb', f1, f2, f3, f4, T1, T2, T3, T4, T5, T6, T7, T8, T9, T10, T11, T12⟩ := back_head X (by omega) _ _ wr ax ay nx cx ny cy hnx.out hny.out hcx hmx hcy hmy (bytes_ordR _ fun v hv => hWd v (List.mem_of_mem_drop hv)) (bytes_smaR _) hLx hLy
        have HO := Lib.hid hLx; have HS2 := Lib.hid hLy; have Hbel := hbel
        have b1 : Below wr.heap.size wr wr := Below.refl _ _
        have hk0 : (0 : Int) ≤ (k : Int) := Int.natCast_nonneg _
        have hk1 : (k : Int) < (n : Int) := by omega
        have q1 : (1 : Int) ≤ (k1 : Int) := by omega
        have q2 : (k1 : Int) ≤ (nx : Int) := by omega
        have q3 : (1 : Int) ≤ (j1 : Int) := by omega
        have q4 : (j1 : Int) ≤ (ny : Int) := by omega
        clear eO eS hx hLx hLy
        go_wp2_with (first
          | (go_at_call 8; ((with_reducible refine (T1.out _ b1).mono ?_); rintro x W3 ⟨rfl, hb3⟩; replace b1 := bthen b1 hb3; have d1 := bsome b1 d0 (World.block_lt_of_cell? _ _ d0)))
          | (go_at_call 10; ((with_reducible refine (T2.out _ b1).mono ?_); rintro x W4 ⟨rfl, hb4⟩; replace b1 := bthen b1 hb4; have d2 := bsome b1 d0 (World.block_lt_of_cell? _ _ d0))))
        go_quiet (fail)
        go_wp2_with fail
        go_roundw
        case rel => exact ⟨k + 1, by omega, by go_num, ⟨_, _, _, rfl, T5, T7, T8, (T11.below b1).below (bdrew (Below.refl _ _) _)⟩, ⟨_, _, _, rfl, T6, T9, T10, (T12.below b1).below (bdrew (Below.refl _ _) _)⟩, bdrew (bthen Hbel b1) _⟩
        case measure => simp [intOf]; omega
      · have hkn : k = n := by omega
        subst hkn
        have hnil : l.drop k = [] := List.drop_eq_nil_of_le (by rw [HL.out]; omega)
        rw [hnil] at hnx hny
        have hx0 : nx = 0 := hnx.out
        have hy0 : ny = 0 := hny.out
        subst hx0
        subst hy0
        clear hnil hLx hLy hnx hny
        obtain ⟨N1, k1, E1, R1, hE1⟩ := hO
        obtain ⟨N2, k2, E2, R2, hE2⟩ := hS
        have z0 : ((0 : Int) == 0) = true := rfl
        rcases hE1 with hE1 | ⟨hE1, p1, p2, X, p3, p4⟩
        · rcases hE2 with hE2 | ⟨hE2, q1, q2, Y, q3, q4⟩
          · go_wp2_with (first
              | (go_at_call 8; ((with_reducible refine (R1.out _ hbel).mono ?_); rintro x W3 ⟨rfl, hb3⟩; replace hbel := bthen hbel hb3))
              | (go_at_call 10; ((with_reducible refine (R2.out _ hbel).mono ?_); rintro x W4 ⟨rfl, hb4⟩; replace hbel := bthen hbel hb4)))
            go_quiet (fail)
            replace hbel := bdrew hbel nq
            go_wp2_with (go_at_call 12; refine (known_any _).mono ?_; rintro x W9 ⟨rfl, hb9⟩; have hbD := bthen hbel hb9)
            go_ret
            exact ⟨ret_bool (by simp), hbD⟩
          · subst hE2
            have q3d := fun w2 (hb : Below w.heap.size w w2) => q3.out w2.drew (bdrw hb)
            simp only [drew_alloc, drew_heap] at q3d
            have Q3d := Lib.hid q3d
            clear q3d
            have q0 : (0 : Int) ≤ k2 := by omega
            have q5 : k2 ≤ (cb : Int) := by omega
            have q6 : decide (k2 < 1) = false := by simpa using q1
            have q7 : decide ((m : Int) < k2) = false := by simpa using q2
            go_wp2_with (first
              | (go_at_call 8; ((with_reducible refine (R1.out _ hbel).mono ?_); rintro x W3 ⟨rfl, hb3⟩; replace hbel := bthen hbel hb3))
              | (go_at_call 10; ((with_reducible refine (R2.out _ hbel).mono ?_); rintro x W4 ⟨rfl, hb4⟩; replace hbel := bthen hbel hb4)))
            refine wp_region_held_drew (S := (fun w' => Below w.heap.size w w')) (by kernel_rfl) (by exact bdrw hbel) (fun hHeld => ?_)
            refine take_p 0 (v := ?v0) rfl (by kernel_rfl) (by kernel_rfl) (by kernel_rfl) (fun _ _ _ h => h) (by rfl) (by assumption) ?y0 ?r0
            case y0 => intro wS hSw; go_simp; try (with_reducible rfl)
            try simp only [Act.put, List.setIfInBounds_toArray, List.set_cons_zero, List.set_cons_succ]
            refine take_p 1 (v := ?v1) rfl (by kernel_rfl) (by kernel_rfl) (by kernel_rfl) (fun _ _ _ h => h) (by rfl) (by assumption) ?y1 ?r1
            case y1 => intro wS hSw; go_simp; try (with_reducible rfl)
            try simp only [Act.put, List.setIfInBounds_toArray, List.set_cons_zero, List.set_cons_succ]
            refine take_p 2 (v := ?v2) rfl (by kernel_rfl) (by kernel_rfl) (by kernel_rfl) (fun _ _ _ h => h) (by rfl) (by assumption) ?y2 ?r2
            case y2 => intro wS hSw; go_simp; try (with_reducible rfl)
            try simp only [Act.put, List.setIfInBounds_toArray, List.set_cons_zero, List.set_cons_succ]
            refine take_u 3 rfl (by kernel_rfl) (by kernel_rfl) (by kernel_rfl) (fun _ _ _ h => h) (by rfl) (by assumption) ?_
            try simp only [Act.put, List.setIfInBounds_toArray, List.set_cons_zero, List.set_cons_succ]
            refine take_u 4 rfl (by kernel_rfl) (by kernel_rfl) (by kernel_rfl) (fun _ _ _ h => h) (by rfl) (by assumption) ?_
            try simp only [Act.put, List.setIfInBounds_toArray, List.set_cons_zero, List.set_cons_succ]
            refine take_u 5 rfl (by kernel_rfl) (by kernel_rfl) (by kernel_rfl) (fun _ _ _ h => h) (by rfl) (by assumption) ?_
            try simp only [Act.put, List.setIfInBounds_toArray, List.set_cons_zero, List.set_cons_succ]
            refine take_u 6 rfl (by kernel_rfl) (by kernel_rfl) (by kernel_rfl) (fun _ _ _ h => h) (by rfl) (by assumption) ?_
            try simp only [Act.put, List.setIfInBounds_toArray, List.set_cons_zero, List.set_cons_succ]
            refine take_u 7 rfl (by kernel_rfl) (by kernel_rfl) (by kernel_rfl) (fun _ _ _ h => h) (by rfl) (by assumption) ?_
            try simp only [Act.put, List.setIfInBounds_toArray, List.set_cons_zero, List.set_cons_succ]
            refine take_u 8 rfl (by kernel_rfl) (by kernel_rfl) (by kernel_rfl) (fun _ _ _ h => h) (by rfl) (by assumption) ?_
            try simp only [Act.put, List.setIfInBounds_toArray, List.set_cons_zero, List.set_cons_succ]
            refine take_u 9 rfl (by kernel_rfl) (by kernel_rfl) (by kernel_rfl) (fun _ _ _ h => h) (by rfl) (by assumption) ?_
            try simp only [Act.put, List.setIfInBounds_toArray, List.set_cons_zero, List.set_cons_succ]
            refine take_u 10 rfl (by kernel_rfl) (by kernel_rfl) (by kernel_rfl) (fun _ _ _ h => h) (by rfl) (by assumption) ?_
            try simp only [Act.put, List.setIfInBounds_toArray, List.set_cons_zero, List.set_cons_succ]
            refine take_u 11 rfl (by kernel_rfl) (by kernel_rfl) (by kernel_rfl) (fun _ _ _ h => h) (by rfl) (by assumption) ?_
            try simp only [Act.put, List.setIfInBounds_toArray, List.set_cons_zero, List.set_cons_succ]
            refine take_u 12 rfl (by kernel_rfl) (by kernel_rfl) (by kernel_rfl) (fun _ _ _ h => h) (by rfl) (by assumption) ?_
            try simp only [Act.put, List.setIfInBounds_toArray, List.set_cons_zero, List.set_cons_succ]
            refine take_u 13 rfl (by kernel_rfl) (by kernel_rfl) (by kernel_rfl) (fun _ _ _ h => h) (by rfl) (by assumption) ?_
            try simp only [Act.put, List.setIfInBounds_toArray, List.set_cons_zero, List.set_cons_succ]
            refine take_u 14 rfl (by kernel_rfl) (by kernel_rfl) (by kernel_rfl) (fun _ _ _ h => h) (by rfl) (by assumption) ?_
            try simp only [Act.put, List.setIfInBounds_toArray, List.set_cons_zero, List.set_cons_succ]
            refine take_u 15 rfl (by kernel_rfl) (by kernel_rfl) (by kernel_rfl) (fun _ _ _ h => h) (by rfl) (by assumption) ?_
            try simp only [Act.put, List.setIfInBounds_toArray, List.set_cons_zero, List.set_cons_succ]
            refine take_u 16 rfl (by kernel_rfl) (by kernel_rfl) (by kernel_rfl) (fun _ _ _ h => h) (by rfl) (by assumption) ?_
            try simp only [Act.put, List.setIfInBounds_toArray, List.set_cons_zero, List.set_cons_succ]
            refine take_u 17 rfl (by kernel_rfl) (by kernel_rfl) (by kernel_rfl) (fun _ _ _ h => h) (by rfl) (by assumption) ?_
            try simp only [Act.put, List.setIfInBounds_toArray, List.set_cons_zero, List.set_cons_succ]
            refine take_u 18 rfl (by kernel_rfl) (by kernel_rfl) (by kernel_rfl) (fun _ _ _ h => h) (by rfl) (by assumption) ?_
            try simp only [Act.put, List.setIfInBounds_toArray, List.set_cons_zero, List.set_cons_succ]
            refine take_u 19 rfl (by kernel_rfl) (by kernel_rfl) (by kernel_rfl) (fun _ _ _ h => h) (by rfl) (by assumption) ?_
            try simp only [Act.put, List.setIfInBounds_toArray, List.set_cons_zero, List.set_cons_succ]
            refine take_u 20 rfl (by kernel_rfl) (by kernel_rfl) (by kernel_rfl) (fun _ _ _ h => h) (by rfl) (by assumption) ?_
            try simp only [Act.put, List.setIfInBounds_toArray, List.set_cons_zero, List.set_cons_succ]
            refine take_p 21 (v := ?v21) rfl (by kernel_rfl) (by kernel_rfl) (by kernel_rfl) (fun _ _ _ h => h) (by rfl) (by assumption) ?y21 ?r21
            case y21 => intro wS hSw; go_simp; try (with_reducible rfl)
            try simp only [Act.put, List.setIfInBounds_toArray, List.set_cons_zero, List.set_cons_succ]
            refine take_p 22 (v := ?v22) rfl (by kernel_rfl) (by kernel_rfl) (by kernel_rfl) (fun _ _ _ h => h) (by rfl) (by assumption) ?y22 ?r22
            case y22 => intro wS hSw; go_simp; try (with_reducible rfl)
            try simp only [Act.put, List.setIfInBounds_toArray, List.set_cons_zero, List.set_cons_succ]
            refine take_p 23 (v := ?v23) rfl (by kernel_rfl) (by kernel_rfl) (by kernel_rfl) (fun _ _ _ h => h) (by rfl) (by assumption) ?y23 ?r23
            case y23 => intro wS hSw; go_simp; try (with_reducible rfl)
            try simp only [Act.put, List.setIfInBounds_toArray, List.set_cons_zero, List.set_cons_succ]
            refine take_p 24 (v := ?v24) rfl (by kernel_rfl) (by kernel_rfl) (by kernel_rfl) (fun _ _ _ h => h) (by rfl) (by assumption) ?y24 ?r24
            case y24 => intro wS hSw; go_simp; try (with_reducible rfl)
            try simp only [Act.put, List.setIfInBounds_toArray, List.set_cons_zero, List.set_cons_succ]
            refine take_p 25 (v := ?v25) rfl (by kernel_rfl) (by kernel_rfl) (by kernel_rfl) (fun _ _ _ h => h) (by rfl) (by assumption) ?y25 ?r25
            case y25 => intro wS hSw; go_simp; try (with_reducible rfl)
            try simp only [Act.put, List.setIfInBounds_toArray, List.set_cons_zero, List.set_cons_succ]
            refine take_p 26 (v := ?v26) rfl (by kernel_rfl) (by kernel_rfl) (by kernel_rfl) (fun _ _ _ h => h) (by rfl) (by assumption) ?y26 ?r26
            case y26 => intro wS hSw; go_simp; try (with_reducible rfl)
            try simp only [Act.put, List.setIfInBounds_toArray, List.set_cons_zero, List.set_cons_succ]
            refine take_p 27 (v := ?v27) rfl (by kernel_rfl) (by kernel_rfl) (by kernel_rfl) (fun _ _ _ h => h) (by rfl) (by assumption) ?y27 ?r27
            case y27 => intro wS hSw; go_simp; try (with_reducible rfl)
            try simp only [Act.put, List.setIfInBounds_toArray, List.set_cons_zero, List.set_cons_succ]
            refine take_p 28 (v := ?v28) rfl (by kernel_rfl) (by kernel_rfl) (by kernel_rfl) (fun _ _ _ h => h) (by rfl) (by assumption) ?y28 ?r28
            case y28 => intro wS hSw; go_simp; try (with_reducible rfl)
            try simp only [Act.put, List.setIfInBounds_toArray, List.set_cons_zero, List.set_cons_succ]
            refine take_p 29 (v := ?v29) rfl (by kernel_rfl) (by kernel_rfl) (by kernel_rfl) (fun _ _ _ h => h) (by rfl) (by assumption) ?y29 ?r29
            case y29 => intro wS hSw; go_simp; try (with_reducible rfl)
            try simp only [Act.put, List.setIfInBounds_toArray, List.set_cons_zero, List.set_cons_succ]
            refine take_p 30 (v := ?v30) rfl (by kernel_rfl) (by kernel_rfl) (by kernel_rfl) (fun _ _ _ h => h) (by rfl) (by assumption) ?y30 ?r30
            case y30 => intro wS hSw; go_simp; try (with_reducible rfl)
            try simp only [Act.put, List.setIfInBounds_toArray, List.set_cons_zero, List.set_cons_succ]
            refine take_p 31 (v := ?v31) rfl (by kernel_rfl) (by kernel_rfl) (by kernel_rfl) (fun _ _ _ h => h) (by rfl) (by assumption) ?y31 ?r31
            case y31 => intro wS hSw; go_simp; try (with_reducible rfl)
            try simp only [Act.put, List.setIfInBounds_toArray, List.set_cons_zero, List.set_cons_succ]
            refine take_p 32 (v := ?v32) rfl (by kernel_rfl) (by kernel_rfl) (by kernel_rfl) (fun _ _ _ h => h) (by rfl) (by assumption) ?y32 ?r32
            case y32 => intro wS hSw; go_simp; try (with_reducible rfl)
            try simp only [Act.put, List.setIfInBounds_toArray, List.set_cons_zero, List.set_cons_succ]
            refine take_p 33 (v := ?v33) rfl (by kernel_rfl) (by kernel_rfl) (by kernel_rfl) (fun _ _ _ h => h) (by rfl) (by assumption) ?y33 ?r33
            case y33 => intro wS hSw; go_simp; try (with_reducible rfl)
            try simp only [Act.put, List.setIfInBounds_toArray, List.set_cons_zero, List.set_cons_succ]
            refine take_p 34 (v := ?v34) rfl (by kernel_rfl) (by kernel_rfl) (by kernel_rfl) (fun _ _ _ h => h) (by rfl) (by assumption) ?y34 ?r34
            case y34 => intro wS hSw; go_simp; try (with_reducible rfl)
            try simp only [Act.put, List.setIfInBounds_toArray, List.set_cons_zero, List.set_cons_succ]
            refine take_p 35 (v := ?v35) rfl (by kernel_rfl) (by kernel_rfl) (by kernel_rfl) (fun _ _ _ h => h) (by rfl) (by assumption) ?y35 ?r35
            case y35 => intro wS hSw; go_simp; try (with_reducible rfl)
            try simp only [Act.put, List.setIfInBounds_toArray, List.set_cons_zero, List.set_cons_succ]
            refine take_p 38 (v := ?v38) rfl (by kernel_rfl) (by kernel_rfl) (by kernel_rfl) (fun _ _ _ h => h) (by rfl) (by assumption) ?y38 ?r38
            case y38 => intro wS hSw; go_simp; try (with_reducible rfl)
            try simp only [Act.put, List.setIfInBounds_toArray, List.set_cons_zero, List.set_cons_succ]
            refine take_p 39 (v := ?v39) rfl (by kernel_rfl) (by kernel_rfl) (by kernel_rfl) (fun _ _ _ h => h) (by rfl) (by assumption) ?y39 ?r39
            case y39 => intro wS hSw; go_simp; try (with_reducible rfl)
            try simp only [Act.put, List.setIfInBounds_toArray, List.set_cons_zero, List.set_cons_succ]
            refine take_p 40 (v := ?v40) rfl (by kernel_rfl) (by kernel_rfl) (by kernel_rfl) (fun _ _ _ h => h) (by rfl) (by assumption) ?y40 ?r40
            case y40 => intro wS hSw; go_simp; try (with_reducible rfl)
            try simp only [Act.put, List.setIfInBounds_toArray, List.set_cons_zero, List.set_cons_succ]
            refine take_c 36 (by kernel_rfl) rfl (fun K hK => ?_)
            go_simp
            refine hK.out _ _ (by first | assumption | exact Below.alloc (by assumption) (Below.size (by assumption)) _) (fun hHeld => ?_)
            clear hK K
            try simp only [Act.put, List.setIfInBounds_toArray, List.set_cons_zero, List.set_cons_succ]
            refine take_c 37 (by kernel_rfl) rfl (fun K hK => ?_)
            go_simp
            ((with_reducible refine (Q3d.out _ hbel).mono ?_); rintro x W7 ⟨a7, c7, rfl, hX7, hb7⟩)
            refine hK.out _ _ (by first | assumption | exact Below.alloc (by assumption) (Below.size (by assumption)) _) (fun hHeld => ?_)
            clear hK K
            try simp only [Act.put, List.setIfInBounds_toArray, List.set_cons_zero, List.set_cons_succ]
            refine take_c 41 (by kernel_rfl) rfl (fun K hK => ?_)
            go_simp
            ((with_reducible refine (q4.out _ _ _ (by assumption) hX7).mono ?_); rintro x W8 ⟨rfl, hb8⟩; clear hX7)
            refine hK.out _ _ (by first | assumption | exact Below.alloc (by assumption) (Below.size (by assumption)) _) (fun hHeld => ?_)
            clear hK K
            try simp only [Act.put, List.setIfInBounds_toArray, List.set_cons_zero, List.set_cons_succ]
            refine take_p 42 (v := ?v42) rfl (by kernel_rfl) (by kernel_rfl) (by kernel_rfl) (fun _ _ _ h => h) (by rfl) (by assumption) ?y42 ?r42
            case y42 => intro wS hSw; go_simp; try (with_reducible rfl)
            try simp only [Act.put, List.setIfInBounds_toArray, List.set_cons_zero, List.set_cons_succ]
            refine take_p 43 (v := ?v43) rfl (by kernel_rfl) (by kernel_rfl) (by kernel_rfl) (fun _ _ _ h => h) (by rfl) (by assumption) ?y43 ?r43
            case y43 => intro wS hSw; go_simp; try (with_reducible rfl)
            try simp only [Act.put, List.setIfInBounds_toArray, List.set_cons_zero, List.set_cons_succ]
            refine take_p 44 (v := ?v44) rfl (by kernel_rfl) (by kernel_rfl) (by kernel_rfl) (fun _ _ _ h => h) (by rfl) (by assumption) ?y44 ?r44
            case y44 => intro wS hSw; go_simp; try (with_reducible rfl)
            try simp only [Act.put, List.setIfInBounds_toArray, List.set_cons_zero, List.set_cons_succ]
            refine take_p 45 (v := ?v45) rfl (by kernel_rfl) (by kernel_rfl) (by kernel_rfl) (fun _ _ _ h => h) (by rfl) (by assumption) ?y45 ?r45
            case y45 => intro wS hSw; go_simp; try (with_reducible rfl)
            try simp only [Act.put, List.setIfInBounds_toArray, List.set_cons_zero, List.set_cons_succ]
            refine wpAnyH_done (by kernel_rfl) ?_ _
            all_goals
              go_wp2_with (go_at_call 12; refine (known_any _).mono ?_; rintro x W9 ⟨rfl, hb9⟩; have hbD := bthen hb8 hb9)
              go_ret
              exact ⟨ret_bool (by simp), hbD⟩
        · rcases hE2 with hE2 | ⟨hE2, q1, q2, Y, q3, q4⟩
          · subst hE1
            have p3d := fun w2 (hb : Below w.heap.size w w2) => p3.out w2.drew (bdrw hb)
            simp only [drew_alloc, drew_heap] at p3d
            have P3d := Lib.hid p3d
            clear p3d
            have p0 : (0 : Int) ≤ k1 := by omega
            have p5 : k1 ≤ (cb : Int) := by omega
            have p6 : decide (k1 < 1) = false := by simpa using p1
            have p7 : decide ((m : Int) < k1) = false := by simpa using p2
            go_wp2_with (first
              | (go_at_call 8; ((with_reducible refine (R1.out _ hbel).mono ?_); rintro x W3 ⟨rfl, hb3⟩; replace hbel := bthen hbel hb3))
              | (go_at_call 10; ((with_reducible refine (R2.out _ hbel).mono ?_); rintro x W4 ⟨rfl, hb4⟩; replace hbel := bthen hbel hb4)))
            refine wp_region_held_drew (S := (fun w' => Below w.heap.size w w')) (by kernel_rfl) (by exact bdrw hbel) (fun hHeld => ?_)
            refine take_p 0 (v := ?vb0) rfl (by kernel_rfl) (by kernel_rfl) (by kernel_rfl) (fun _ _ _ h => h) (by rfl) (by assumption) ?yb0 ?rb0
            case yb0 => intro wS hSw; go_simp; try (with_reducible rfl)
            try simp only [Act.put, List.setIfInBounds_toArray, List.set_cons_zero, List.set_cons_succ]
            refine take_p 1 (v := ?vb1) rfl (by kernel_rfl) (by kernel_rfl) (by kernel_rfl) (fun _ _ _ h => h) (by rfl) (by assumption) ?yb1 ?rb1
            case yb1 => intro wS hSw; go_simp; try (with_reducible rfl)
            try simp only [Act.put, List.setIfInBounds_toArray, List.set_cons_zero, List.set_cons_succ]
            refine take_p 2 (v := ?vb2) rfl (by kernel_rfl) (by kernel_rfl) (by kernel_rfl) (fun _ _ _ h => h) (by rfl) (by assumption) ?yb2 ?rb2
            case yb2 => intro wS hSw; go_simp; try (with_reducible rfl)
            try simp only [Act.put, List.setIfInBounds_toArray, List.set_cons_zero, List.set_cons_succ]
            refine take_p 3 (v := ?vb3) rfl (by kernel_rfl) (by kernel_rfl) (by kernel_rfl) (fun _ _ _ h => h) (by rfl) (by assumption) ?yb3 ?rb3
            case yb3 => intro wS hSw; go_simp; try (with_reducible rfl)
            try simp only [Act.put, List.setIfInBounds_toArray, List.set_cons_zero, List.set_cons_succ]
            refine take_p 4 (v := ?vb4) rfl (by kernel_rfl) (by kernel_rfl) (by kernel_rfl) (fun _ _ _ h => h) (by rfl) (by assumption) ?yb4 ?rb4
            case yb4 => intro wS hSw; go_simp; try (with_reducible rfl)
            try simp only [Act.put, List.setIfInBounds_toArray, List.set_cons_zero, List.set_cons_succ]
            refine take_p 5 (v := ?vb5) rfl (by kernel_rfl) (by kernel_rfl) (by kernel_rfl) (fun _ _ _ h => h) (by rfl) (by assumption) ?yb5 ?rb5
            case yb5 => intro wS hSw; go_simp; try (with_reducible rfl)
            try simp only [Act.put, List.setIfInBounds_toArray, List.set_cons_zero, List.set_cons_succ]
            refine take_p 6 (v := ?vb6) rfl (by kernel_rfl) (by kernel_rfl) (by kernel_rfl) (fun _ _ _ h => h) (by rfl) (by assumption) ?yb6 ?rb6
            case yb6 => intro wS hSw; go_simp; try (with_reducible rfl)
            try simp only [Act.put, List.setIfInBounds_toArray, List.set_cons_zero, List.set_cons_succ]
            refine take_p 7 (v := ?vb7) rfl (by kernel_rfl) (by kernel_rfl) (by kernel_rfl) (fun _ _ _ h => h) (by rfl) (by assumption) ?yb7 ?rb7
            case yb7 => intro wS hSw; go_simp; try (with_reducible rfl)
            try simp only [Act.put, List.setIfInBounds_toArray, List.set_cons_zero, List.set_cons_succ]
            refine take_p 8 (v := ?vb8) rfl (by kernel_rfl) (by kernel_rfl) (by kernel_rfl) (fun _ _ _ h => h) (by rfl) (by assumption) ?yb8 ?rb8
            case yb8 => intro wS hSw; go_simp; try (with_reducible rfl)
            try simp only [Act.put, List.setIfInBounds_toArray, List.set_cons_zero, List.set_cons_succ]
            refine take_p 9 (v := ?vb9) rfl (by kernel_rfl) (by kernel_rfl) (by kernel_rfl) (fun _ _ _ h => h) (by rfl) (by assumption) ?yb9 ?rb9
            case yb9 => intro wS hSw; go_simp; try (with_reducible rfl)
            try simp only [Act.put, List.setIfInBounds_toArray, List.set_cons_zero, List.set_cons_succ]
            refine take_p 10 (v := ?vb10) rfl (by kernel_rfl) (by kernel_rfl) (by kernel_rfl) (fun _ _ _ h => h) (by rfl) (by assumption) ?yb10 ?rb10
            case yb10 => intro wS hSw; go_simp; try (with_reducible rfl)
            try simp only [Act.put, List.setIfInBounds_toArray, List.set_cons_zero, List.set_cons_succ]
            refine take_p 11 (v := ?vb11) rfl (by kernel_rfl) (by kernel_rfl) (by kernel_rfl) (fun _ _ _ h => h) (by rfl) (by assumption) ?yb11 ?rb11
            case yb11 => intro wS hSw; go_simp; try (with_reducible rfl)
            try simp only [Act.put, List.setIfInBounds_toArray, List.set_cons_zero, List.set_cons_succ]
            refine take_p 12 (v := ?vb12) rfl (by kernel_rfl) (by kernel_rfl) (by kernel_rfl) (fun _ _ _ h => h) (by rfl) (by assumption) ?yb12 ?rb12
            case yb12 => intro wS hSw; go_simp; try (with_reducible rfl)
            try simp only [Act.put, List.setIfInBounds_toArray, List.set_cons_zero, List.set_cons_succ]
            refine take_p 15 (v := ?vb15) rfl (by kernel_rfl) (by kernel_rfl) (by kernel_rfl) (fun _ _ _ h => h) (by rfl) (by assumption) ?yb15 ?rb15
            case yb15 => intro wS hSw; go_simp; try (with_reducible rfl)
            try simp only [Act.put, List.setIfInBounds_toArray, List.set_cons_zero, List.set_cons_succ]
            refine take_p 16 (v := ?vb16) rfl (by kernel_rfl) (by kernel_rfl) (by kernel_rfl) (fun _ _ _ h => h) (by rfl) (by assumption) ?yb16 ?rb16
            case yb16 => intro wS hSw; go_simp; try (with_reducible rfl)
            try simp only [Act.put, List.setIfInBounds_toArray, List.set_cons_zero, List.set_cons_succ]
            refine take_p 17 (v := ?vb17) rfl (by kernel_rfl) (by kernel_rfl) (by kernel_rfl) (fun _ _ _ h => h) (by rfl) (by assumption) ?yb17 ?rb17
            case yb17 => intro wS hSw; go_simp; try (with_reducible rfl)
            try simp only [Act.put, List.setIfInBounds_toArray, List.set_cons_zero, List.set_cons_succ]
            refine take_c 13 (by kernel_rfl) rfl (fun K hK => ?_)
            go_simp
            refine hK.out _ _ (by first | assumption | exact Below.alloc (by assumption) (Below.size (by assumption)) _) (fun hHeld => ?_)
            clear hK K
            try simp only [Act.put, List.setIfInBounds_toArray, List.set_cons_zero, List.set_cons_succ]
            refine take_c 14 (by kernel_rfl) rfl (fun K hK => ?_)
            go_simp
            ((with_reducible refine (P3d.out _ hbel).mono ?_); rintro x W5 ⟨a5, c5, rfl, hX5, hb5⟩)
            refine hK.out _ _ (by first | assumption | exact Below.alloc (by assumption) (Below.size (by assumption)) _) (fun hHeld => ?_)
            clear hK K
            try simp only [Act.put, List.setIfInBounds_toArray, List.set_cons_zero, List.set_cons_succ]
            refine take_c 18 (by kernel_rfl) rfl (fun K hK => ?_)
            go_simp
            ((with_reducible refine (p4.out _ _ _ (by assumption) hX5).mono ?_); rintro x W6 ⟨rfl, hb6⟩; clear hX5)
            refine hK.out _ _ (by first | assumption | exact Below.alloc (by assumption) (Below.size (by assumption)) _) (fun hHeld => ?_)
            clear hK K
            try simp only [Act.put, List.setIfInBounds_toArray, List.set_cons_zero, List.set_cons_succ]
            refine take_p 19 (v := ?vb19) rfl (by kernel_rfl) (by kernel_rfl) (by kernel_rfl) (fun _ _ _ h => h) (by rfl) (by assumption) ?yb19 ?rb19
            case yb19 => intro wS hSw; go_simp; try (with_reducible rfl)
            try simp only [Act.put, List.setIfInBounds_toArray, List.set_cons_zero, List.set_cons_succ]
            refine take_p 20 (v := ?vb20) rfl (by kernel_rfl) (by kernel_rfl) (by kernel_rfl) (fun _ _ _ h => h) (by rfl) (by assumption) ?yb20 ?rb20
            case yb20 => intro wS hSw; go_simp; try (with_reducible rfl)
            try simp only [Act.put, List.setIfInBounds_toArray, List.set_cons_zero, List.set_cons_succ]
            refine take_p 21 (v := ?vb21) rfl (by kernel_rfl) (by kernel_rfl) (by kernel_rfl) (fun _ _ _ h => h) (by rfl) (by assumption) ?yb21 ?rb21
            case yb21 => intro wS hSw; go_simp; try (with_reducible rfl)
            try simp only [Act.put, List.setIfInBounds_toArray, List.set_cons_zero, List.set_cons_succ]
            refine take_p 22 (v := ?vb22) rfl (by kernel_rfl) (by kernel_rfl) (by kernel_rfl) (fun _ _ _ h => h) (by rfl) (by assumption) ?yb22 ?rb22
            case yb22 => intro wS hSw; go_simp; try (with_reducible rfl)
            try simp only [Act.put, List.setIfInBounds_toArray, List.set_cons_zero, List.set_cons_succ]
            refine take_p 23 (v := ?vb23) rfl (by kernel_rfl) (by kernel_rfl) (by kernel_rfl) (fun _ _ _ h => h) (by rfl) (by assumption) ?yb23 ?rb23
            case yb23 => intro wS hSw; go_simp; try (with_reducible rfl)
            try simp only [Act.put, List.setIfInBounds_toArray, List.set_cons_zero, List.set_cons_succ]
            refine take_p 24 (v := ?vb24) rfl (by kernel_rfl) (by kernel_rfl) (by kernel_rfl) (fun _ _ _ h => h) (by rfl) (by assumption) ?yb24 ?rb24
            case yb24 => intro wS hSw; go_simp; try (with_reducible rfl)
            try simp only [Act.put, List.setIfInBounds_toArray, List.set_cons_zero, List.set_cons_succ]
            refine take_p 25 (v := ?vb25) rfl (by kernel_rfl) (by kernel_rfl) (by kernel_rfl) (fun _ _ _ h => h) (by rfl) (by assumption) ?yb25 ?rb25
            case yb25 => intro wS hSw; go_simp; try (with_reducible rfl)
            try simp only [Act.put, List.setIfInBounds_toArray, List.set_cons_zero, List.set_cons_succ]
            refine take_u 26 rfl (by kernel_rfl) (by kernel_rfl) (by kernel_rfl) (fun _ _ _ h => h) (by rfl) (by assumption) ?_
            try simp only [Act.put, List.setIfInBounds_toArray, List.set_cons_zero, List.set_cons_succ]
            refine take_u 27 rfl (by kernel_rfl) (by kernel_rfl) (by kernel_rfl) (fun _ _ _ h => h) (by rfl) (by assumption) ?_
            try simp only [Act.put, List.setIfInBounds_toArray, List.set_cons_zero, List.set_cons_succ]
            refine take_u 28 rfl (by kernel_rfl) (by kernel_rfl) (by kernel_rfl) (fun _ _ _ h => h) (by rfl) (by assumption) ?_
            try simp only [Act.put, List.setIfInBounds_toArray, List.set_cons_zero, List.set_cons_succ]
            refine take_u 29 rfl (by kernel_rfl) (by kernel_rfl) (by kernel_rfl) (fun _ _ _ h => h) (by rfl) (by assumption) ?_
            try simp only [Act.put, List.setIfInBounds_toArray, List.set_cons_zero, List.set_cons_succ]
            refine take_u 30 rfl (by kernel_rfl) (by kernel_rfl) (by kernel_rfl) (fun _ _ _ h => h) (by rfl) (by assumption) ?_
            try simp only [Act.put, List.setIfInBounds_toArray, List.set_cons_zero, List.set_cons_succ]
            refine take_u 31 rfl (by kernel_rfl) (by kernel_rfl) (by kernel_rfl) (fun _ _ _ h => h) (by rfl) (by assumption) ?_
            try simp only [Act.put, List.setIfInBounds_toArray, List.set_cons_zero, List.set_cons_succ]
            refine take_u 32 rfl (by kernel_rfl) (by kernel_rfl) (by kernel_rfl) (fun _ _ _ h => h) (by rfl) (by assumption) ?_
            try simp only [Act.put, List.setIfInBounds_toArray, List.set_cons_zero, List.set_cons_succ]
            refine take_u 33 rfl (by kernel_rfl) (by kernel_rfl) (by kernel_rfl) (fun _ _ _ h => h) (by rfl) (by assumption) ?_
            try simp only [Act.put, List.setIfInBounds_toArray, List.set_cons_zero, List.set_cons_succ]
            refine take_u 34 rfl (by kernel_rfl) (by kernel_rfl) (by kernel_rfl) (fun _ _ _ h => h) (by rfl) (by assumption) ?_
            try simp only [Act.put, List.setIfInBounds_toArray, List.set_cons_zero, List.set_cons_succ]
            refine take_u 35 rfl (by kernel_rfl) (by kernel_rfl) (by kernel_rfl) (fun _ _ _ h => h) (by rfl) (by assumption) ?_
            try simp only [Act.put, List.setIfInBounds_toArray, List.set_cons_zero, List.set_cons_succ]
            refine take_u 36 rfl (by kernel_rfl) (by kernel_rfl) (by kernel_rfl) (fun _ _ _ h => h) (by rfl) (by assumption) ?_
            try simp only [Act.put, List.setIfInBounds_toArray, List.set_cons_zero, List.set_cons_succ]
            refine take_u 37 rfl (by kernel_rfl) (by kernel_rfl) (by kernel_rfl) (fun _ _ _ h => h) (by rfl) (by assumption) ?_
            try simp only [Act.put, List.setIfInBounds_toArray, List.set_cons_zero, List.set_cons_succ]
            refine take_u 38 rfl (by kernel_rfl) (by kernel_rfl) (by kernel_rfl) (fun _ _ _ h => h) (by rfl) (by assumption) ?_
            try simp only [Act.put, List.setIfInBounds_toArray, List.set_cons_zero, List.set_cons_succ]
            refine take_u 39 rfl (by kernel_rfl) (by kernel_rfl) (by kernel_rfl) (fun _ _ _ h => h) (by rfl) (by assumption) ?_
            try simp only [Act.put, List.setIfInBounds_toArray, List.set_cons_zero, List.set_cons_succ]
            refine take_u 40 rfl (by kernel_rfl) (by kernel_rfl) (by kernel_rfl) (fun _ _ _ h => h) (by rfl) (by assumption) ?_
            try simp only [Act.put, List.setIfInBounds_toArray, List.set_cons_zero, List.set_cons_succ]
            refine take_u 41 rfl (by kernel_rfl) (by kernel_rfl) (by kernel_rfl) (fun _ _ _ h => h) (by rfl) (by assumption) ?_
            try simp only [Act.put, List.setIfInBounds_toArray, List.set_cons_zero, List.set_cons_succ]
            refine take_u 42 rfl (by kernel_rfl) (by kernel_rfl) (by kernel_rfl) (fun _ _ _ h => h) (by rfl) (by assumption) ?_
            try simp only [Act.put, List.setIfInBounds_toArray, List.set_cons_zero, List.set_cons_succ]
            refine take_u 43 rfl (by kernel_rfl) (by kernel_rfl) (by kernel_rfl) (fun _ _ _ h => h) (by rfl) (by assumption) ?_
            try simp only [Act.put, List.setIfInBounds_toArray, List.set_cons_zero, List.set_cons_succ]
            refine take_p 44 (v := ?vb44) rfl (by kernel_rfl) (by kernel_rfl) (by kernel_rfl) (fun _ _ _ h => h) (by rfl) (by assumption) ?yb44 ?rb44
            case yb44 => intro wS hSw; go_simp; try (with_reducible rfl)
            try simp only [Act.put, List.setIfInBounds_toArray, List.set_cons_zero, List.set_cons_succ]
            refine take_p 45 (v := ?vb45) rfl (by kernel_rfl) (by kernel_rfl) (by kernel_rfl) (fun _ _ _ h => h) (by rfl) (by assumption) ?yb45 ?rb45
            case yb45 => intro wS hSw; go_simp; try (with_reducible rfl)
            try simp only [Act.put, List.setIfInBounds_toArray, List.set_cons_zero, List.set_cons_succ]
            refine wpAnyH_done (by kernel_rfl) ?_ _
            all_goals
              go_wp2_with (go_at_call 12; refine (known_any _).mono ?_; rintro x W9 ⟨rfl, hb9⟩; have hbD := bthen hb6 hb9)
              go_ret
              exact ⟨ret_bool (by simp), hbD⟩
          · subst hE1
            have p3d := fun w2 (hb : Below w.heap.size w w2) => p3.out w2.drew (bdrw hb)
            simp only [drew_alloc, drew_heap] at p3d
            have P3d := Lib.hid p3d
            clear p3d
            have p0 : (0 : Int) ≤ k1 := by omega
            have p5 : k1 ≤ (cb : Int) := by omega
            have p6 : decide (k1 < 1) = false := by simpa using p1
            have p7 : decide ((m : Int) < k1) = false := by simpa using p2
            subst hE2
            have q3d := fun w2 (hb : Below w.heap.size w w2) => q3.out w2.drew (bdrw hb)
            simp only [drew_alloc, drew_heap] at q3d
            have Q3d := Lib.hid q3d
            clear q3d
            have q0 : (0 : Int) ≤ k2 := by omega
            have q5 : k2 ≤ (cb : Int) := by omega
            have q6 : decide (k2 < 1) = false := by simpa using q1
            have q7 : decide ((m : Int) < k2) = false := by simpa using q2
            go_wp2_with (first
              | (go_at_call 8; ((with_reducible refine (R1.out _ hbel).mono ?_); rintro x W3 ⟨rfl, hb3⟩; replace hbel := bthen hbel hb3))
              | (go_at_call 10; ((with_reducible refine (R2.out _ hbel).mono ?_); rintro x W4 ⟨rfl, hb4⟩; replace hbel := bthen hbel hb4)))
            go_region_held3 (fun w' => Below w.heap.size w w') (first | assumption | exact bdrw hbel | exact (bdrw hbel).alloc (bdrw hbel).size _ | exact Below.alloc (by assumption) (Below.size (by assumption)) _)
              (first
              | (go_at_call 13; ((with_reducible refine (P3d.out _ hbel).mono ?_); rintro x W5 ⟨a5, c5, rfl, hX5, hb5⟩))
              | (go_at_call 15; ((with_reducible refine (p4.out _ _ _ (by assumption) hX5).mono ?_); rintro x W6 ⟨rfl, hb6⟩; clear hX5))
              | (go_at_call 14; ((with_reducible refine (q3.out _ (by first | assumption | exact bdrw hbel)).mono ?_); rintro x W7 ⟨a7, c7, rfl, hX7, hb7⟩))
              | (go_at_call 15; ((with_reducible refine (q4.out _ _ _ (by assumption) hX7).mono ?_); rintro x W8 ⟨rfl, hb8⟩; clear hX7)))
            all_goals
              go_wp2_with (go_at_call 12; refine (known_any _).mono ?_; rintro x W9 ⟨rfl, hb9⟩; have hbD := bthen hb8 hb9)
              go_ret
              exact ⟨ret_bool (by simp), hbD⟩
end Go.Proofs.Ytgedabhobpcghaa.dw
