/-
  The walk of the law ChainFew: how many are left behind trimming.
-/
import Derived.Test.YtpbdgfgjlccapaaChnL
import Derived.Deep.QuietTactic
import Derived.BigQuiet
namespace Go.Proofs.Ytpbdgfgjlccapaa.cw
open Go.RowKit Go.Proofs.Ytpbdgfgjlccapaa.ba Go.Proofs.Ytpbdgfgjlccapaa.rp Go.Proofs.Ytpbdgfgjlccapaa.rw Go.Proofs.Ytpbdgfgjlccapaa.cp
set_option maxRecDepth 8000
set_option linter.unusedVariables false
attribute [local go_sem ↓] Go.wp_at_zero Go.wp_at_succ

theorem unl_step {P : List Int} {k : Nat} {p : Int} (hp : P[k]? = some p) : unl P (k + 1) = if p ∈ P.take k then unl P k else unl P k + 1 := by
  simp only [unl, hp]
theorem unl_le (P : List Int) : ∀ k, unl P k ≤ k
  | 0 => Nat.le_refl _
  | k + 1 => by
    have := unl_le P k
    unfold unl
    split
    · split <;> omega
    · omega
theorem mem_take_step {P : List Int} {j : Nat} {q : Int} (hq : P[j]? = some q) (p : Int) : p ∈ P.take (j + 1) ↔ p ∈ P.take j ∨ q = p := by
  rw [take_snoc hq]
  simp [eq_comm]
theorem few_sum (un tn : Nat) (h : (tn : Int) ≤ (un : Int) + 1) (h8 : (un : Int) ≤ 8) : ∃ U : Int, IntKind.i64.wrap ((un : Int) + 1) = U ∧ wrap64 ((un : Int) + 1) = U ∧ (tn : Int) ≤ U :=
  ⟨(un : Int) + 1, IntWalk.i64_in _ (by omega), IntWalk.wrap64_in _ ⟨by omega, by omega⟩, h⟩
theorem few_sub (kn tn : Nat) (h : (kn : Int) ≤ 20) (h2 : (tn : Int) ≤ (kn : Int)) : ∃ G : Int, (kn : Int) - (tn : Int) = G ∧ IntKind.i64.wrap ((kn : Int) - G) = (tn : Int) ∧ wrap64 ((kn : Int) - G) = (tn : Int) := by
  refine ⟨(kn : Int) - (tn : Int), rfl, ?_, ?_⟩
  · rw [show (kn : Int) - ((kn : Int) - (tn : Int)) = (tn : Int) by omega]
    exact IntWalk.i64_in _ (by omega)
  · rw [show (kn : Int) - ((kn : Int) - (tn : Int)) = (tn : Int) by omega]
    exact IntWalk.wrap64_in _ ⟨by omega, by omega⟩
set_option maxRecDepth 100000 in
set_option maxHeartbeats 8000000 in
/-- The law behind the cut: of the first m pins. -/
theorem chainFew_at (a : Option Addr) (n c : Nat) (L : List V) (pa : Option Addr) (pn pc m : Nat) (P : List Int) (w : World) (hn : L.length = n) (hL : VL w a L) (hok : ∀ v ∈ L, v.ok)
    (hm : m ≤ 8) (hmn : m ≤ pn) (hnc : pn ≤ pc) (hcm : pc ≤ maxLen) (hPl : P.length = m) (hP : Lst .u64 w pa P)
    (hmin : ∀ W, (Builtin.min_ #[3, 3] 3 #[.int .i64 (pn : Int), .int .i64 8]).run Try.prog W = .ok (.int .i64 (m : Int)) W) :
    Calls Try.prog 4 #[.slice a n c, .slice pa pn pc] w fun x w' => x = .returned (.bool true) ∧ Below w.heap.size w w' := by
  subst hPl
  obtain ⟨K, hK⟩ : ∃ K, putL [] (L.take 20) = K := ⟨_, rfl⟩
  have hKl : K.length ≤ 20 := by have := putL_len (L.take 20) []; rw [hK] at this; simp at this; omega
  have hI : Inc K := hK ▸ inc_putL _ _ inc_nil
  have hPut := fun (W : World) (hb : Below w.heap.size w W) => putlaw_any a n c L W hn (hL.below hb) hok
  rw [hK] at hPut
  obtain ⟨T, hT⟩ : ∃ T, trimF K P = T := ⟨_, rfl⟩
  obtain ⟨D, hD⟩ : ∃ D, trimF K [] = D := ⟨_, rfl⟩
  have hTl := trim_le K P
  have hTf := trim_few K P
  have hTT := trim_twice hI P
  have hDl := trim_nopin K
  have hTwo := fun (W : World) (g1 g2 : Nat) (h : Two w W g1 g2 K K) => h.trim pa P.length pc P (hP.below h.b) rfl (by omega) (by omega)
  have hTwo2 := fun (W : World) (g1 g2 : Nat) (h : Two w W g1 g2 T K) => (h.swap.trim none 0 0 [] (.inl rfl) rfl (by omega) (by omega)).mono fun x W' hx => (⟨hx.1, hx.2.swap⟩ : _ ∧ Two w W' g1 g2 T (trimF K []))
  have hTwo3 := fun (W : World) (g1 g2 : Nat) (h : Two w W g1 g2 T D) => h.trim pa P.length pc P (hP.below h.b) rfl (by rw [← hT]; omega) (by omega)
  rw [hT] at hTl hTf hTT
  simp only [hT, hTT, hD] at hTwo hTwo2 hTwo3
  rw [hD] at hDl
  rw [show ((T.length : Int) - (T.length : Int)) = 0 from by omega] at hTwo3
  have HPut := Lib.hid hPut
  have HTwo := Lib.hid hTwo
  have HTwo2 := Lib.hid hTwo2
  have HTwo3 := Lib.hid hTwo3
  have hm0 : (0 : Int) ≤ (P.length : Int) := Int.natCast_nonneg _
  have hmc : (P.length : Int) ≤ (pc : Int) := by omega
  have hb0 : Below w.heap.size w w := Below.refl _ _
  have HPP := Lib.hid hP
  have HKl := Lib.hid hKl
  have HTl := Lib.hid hTl
  have HTf := Lib.hid hTf
  have HDl := Lib.hid hDl
  clear hL hok hK hn hP hKl hTl hTf hDl hTT hT hD hTwo hTwo2 hTwo3 hPut hI
  have HLen := Lib.hid fun (g1 : Nat) (M : List V) (hM : M.length ≤ 1000) (W : World) (h : CP W (some ⟨g1, 0, none⟩) M) => len_any (some ⟨g1, 0, none⟩) M W h
  go_enter Try.func4, Try.ntmps4
  go_wp2_with (first
    | (go_at_call 8; ((with_reducible refine (HPut.out _ hb0).mono ?_); rintro x w1 ⟨g1, rfl, hO1⟩; have HO1 := Lib.hid hO1; have hbA := hO1.b; clear hO1))
    | (go_at_call 8; ((with_reducible refine (HPut.out _ hbA).mono ?_); rintro x w2 ⟨g2, rfl, hO2⟩; have hT0 := Two.of HO1.out hO2; clear hO2))
    | (go_at_call 14; ((with_reducible refine (HLen.out _ K (by have := HKl.out; omega) _ (hT0.cp1 (by have := HKl.out; omega))).mono ?_); rintro x w9 ⟨rfl, rfl⟩))
    | (go_at_call 9; ((with_reducible refine (HTwo.out _ _ _ hT0).mono ?_); rintro x w3 ⟨rfl, hT3⟩; have HT3 := Lib.hid hT3; clear hT3))
    | fail)
  clear HPut HTwo hbA hT0 HO1
  go_loopw [9, 10] (fun u i wr => ∃ k : Nat, u = .int .i64 (unl P k) ∧ i = .int .i64 k ∧ k ≤ P.length ∧ Two w wr g1 g2 T K) (fun _ i _ => P.length - (intOf i).toNat)
  case atStart => exact ⟨0, rfl, rfl, Nat.zero_le _, HT3.out⟩
  case round =>
    obtain ⟨k, rfl, rfl, hk, hT⟩ := hrel
    by_cases hlt : k < P.length
    · obtain ⟨p, hp⟩ := some_at P hlt
      have hlti : (k : Int) < (P.length : Int) := by omega
      have HT := Lib.hid hT
      have HU := Lib.hid (unl_step hp)
      have hul := unl_le P k
      have HP := Lib.hid hp
      clear hT hp
      go_wp2_with fail
      generalize wr = y1 at *
      go_loopw [11, 12] (fun f i wx => ∃ j : Nat, f = .bool (decide (p ∉ P.take j)) ∧ i = .int .i64 j ∧ j ≤ k ∧ Two w wx g1 g2 T K) (fun _ i _ => k - (intOf i).toNat)
      case atStart => exact ⟨0, by simp, rfl, Nat.zero_le _, HT.out⟩
      case round =>
        obtain ⟨j, rfl, rfl, hj, hT⟩ := hrel
        by_cases hjk : j < k
        · obtain ⟨q, hq⟩ := some_at P (show j < P.length by omega)
          obtain ⟨pb, poff, rfl, hpc⟩ := (HPP.out.below hT.b).at HP.out
          obtain ⟨pb', poff', hpe, hqc⟩ := (HPP.out.below hT.b).at hq
          cases hpe
          have hjki : (j : Int) < (k : Int) := by omega
          have hjli : (j : Int) < (P.length : Int) := by omega
          have HM := Lib.hid (mem_take_step hq p)
          have HT2 := Lib.hid hT
          have hT3 : Two w wr g1 g2 T K := hT
          have hk0 : (0 : Int) ≤ (k : Int) := Int.natCast_nonneg _
          have hj0 : (0 : Int) ≤ (j : Int) := Int.natCast_nonneg _
          have hkl : (k : Int) < (P.length : Int) := hlti
          clear hT hq
          rcases Decidable.em (p ∈ P.take j) with hin | hin
          · have hd : decide (p ∉ P.take j) = false := by simpa using hin
            have hd2 : decide (p ∉ P.take (j + 1)) = false := by have := HM.out; simp [this, hin]
            have HD2 := Lib.hid hd2
            have HTq := Lib.hid hT3
            rw [hd]
            clear hd hd2 hT3 hin
            go_wp2_with fail
            go_quiet (fail)
            go_wp2_with fail
            go_roundw
            case rel => exact ⟨j + 1, by rw [HD2.out], by go_num, by omega, HTq.out.below (bdrew (Below.refl _ _) _)⟩
            case measure => simp [intOf]; omega
          · have hd : decide (p ∉ P.take j) = true := by simpa using hin
            have HTq := Lib.hid hT3
            rw [hd]
            rcases Decidable.em (q = p) with he | he
            · have hd2 : decide (p ∉ P.take (j + 1)) = false := by have := HM.out; simp [this, he]
              have HD2 := Lib.hid hd2
              have hne : (q != p) = false := by simp [he]
              clear hd hd2 hT3 hin he
              go_wp2_with fail
              go_quiet (fail)
              go_wp2_with fail
              go_roundw
              case rel => exact ⟨j + 1, by rw [HD2.out], by go_num, by omega, HTq.out.below (bdrew (Below.refl _ _) _)⟩
              case measure => simp [intOf]; omega
            · have hd2 : decide (p ∉ P.take (j + 1)) = true := by have := HM.out; simp [this, he, hin]
              have HD2 := Lib.hid hd2
              have hne : (q != p) = true := by simpa using he
              clear hd hd2 hT3 hin he
              go_wp2_with fail
              go_quiet (fail)
              go_wp2_with fail
              go_roundw
              case rel => exact ⟨j + 1, by rw [HD2.out], by go_num, by omega, HTq.out.below (bdrew (Below.refl _ _) _)⟩
              case measure => simp [intOf]; omega
        · have hje : j = k := by omega
          subst hje
          have HT2 := Lib.hid hT
          rcases Decidable.em (p ∈ P.take j) with hin | hin
          · have hd : decide (p ∉ P.take j) = false := by simpa using hin
            have hu : unl P (j + 1) = unl P j := by rw [HU.out, if_pos hin]
            have HU2 := Lib.hid hu
            rw [hd]
            clear hd hin hT hu
            go_wp2_with fail
            go_roundw
            case rel => exact ⟨j + 1, by rw [HU2.out], by go_num, by omega, HT2.out⟩
            case measure => simp [intOf]; omega
          · have hd : decide (p ∉ P.take j) = true := by simpa using hin
            have hu : unl P (j + 1) = unl P j + 1 := by rw [HU.out, if_neg hin]
            have HU2 := Lib.hid hu
            rw [hd]
            clear hd hin hT hu
            go_wp2_with fail
            go_roundw
            case rel => exact ⟨j + 1, by rw [HU2.out]; go_num, by go_num, by omega, HT2.out⟩
            case measure => simp [intOf]; omega
    · have hke : k = P.length := by omega
      subst hke
      have hT := hT
      have hul := unl_le P P.length
      have htf := HTf.out
      have hkl := HKl.out
      have htl := HTl.out
      have hdl := HDl.out
      have HK := Lib.hid fun (W : World) (h : Two w W g1 g2 T D) => (known_any W).mono fun x W' hx => (⟨hx.1, h.below hx.2⟩ : _ ∧ Two w W' g1 g2 T D)
      have HV := Lib.hid ((live_any (some ⟨g2, 0, none⟩) K wr (hT.cp2 (by omega))).mono fun x W' hx => (⟨hx.1, hT.below hx.2⟩ : _ ∧ Two w W' g1 g2 T K))
      have HL1 := Lib.hid fun (W : World) (h : Two w W g1 g2 T D) => (len_any (some ⟨g1, 0, none⟩) T W (h.cp1 (by omega)))
      have HL2 := Lib.hid fun (W : World) (h : Two w W g1 g2 T D) => (len_any (some ⟨g2, 0, none⟩) D W (h.cp2 (by split at hdl <;> omega)))
      generalize liveF K = lv at *
      generalize T.length = tn at *
      generalize K.length = kn at *
      generalize D.length = dn at *
      generalize unl P P.length = un at *
      have hle : (tn : Int) ≤ (un : Int) + 1 := by omega
      have hk20 : (kn : Int) ≤ 20 := by omega
      have htk : (tn : Int) ≤ (kn : Int) := by omega
      have hu8 : (un : Int) ≤ 8 := by omega
      obtain ⟨U, hwu, hwu2, hle2⟩ := few_sum un tn hle hu8
      obtain ⟨G, hG, hwg, hwg2⟩ := few_sub kn tn hk20 htk
      rw [hG]
      clear HPP HT3 HLen hul htf hkl htl HKl HTl HTf HDl hu8 hG hk20 htk hle
      cases lv with
      | true =>
        rw [if_pos rfl] at hdl
        subst hdl
        rw [show ((1 : Nat) : Int) = 1 from rfl] at HL2 HTwo2
        go_wp2_with (first
          | (go_at_call 13; ((with_reducible refine HV.out.mono ?_); rintro x W1 ⟨rfl, hT1⟩))
          | (go_at_call 9; ((with_reducible refine (HTwo2.out _ _ _ hT1).mono ?_); rintro x W2 ⟨rfl, hT2⟩; clear hT1))
          | (go_at_call 12; ((with_reducible refine (HK.out _ hT2).mono ?_); rintro x W3 ⟨rfl, hT3⟩; clear hT2))
          | (go_at_call 14; ((with_reducible refine (HL1.out _ (by with_reducible assumption)).mono ?_); rintro x W4 ⟨rfl, rfl⟩))
          | (go_at_call 14; ((with_reducible refine (HL2.out _ (by with_reducible assumption)).mono ?_); rintro x W5 ⟨rfl, rfl⟩))
          | (go_at_call 9; ((with_reducible refine (HTwo3.out _ _ _ hT3).mono ?_); rintro x W6 ⟨rfl, hT6⟩; clear hT3))
          | fail)
        go_ret
        exact ⟨rfl, hT6.b⟩
      | false =>
        rw [if_neg (by decide)] at hdl
        subst hdl
        rw [show ((0 : Nat) : Int) = 0 from rfl] at HL2 HTwo2
        go_wp2_with (first
          | (go_at_call 13; ((with_reducible refine HV.out.mono ?_); rintro x W1 ⟨rfl, hT1⟩))
          | (go_at_call 9; ((with_reducible refine (HTwo2.out _ _ _ hT1).mono ?_); rintro x W2 ⟨rfl, hT2⟩; clear hT1))
          | (go_at_call 12; ((with_reducible refine (HK.out _ hT2).mono ?_); rintro x W3 ⟨rfl, hT3⟩; clear hT2))
          | (go_at_call 14; ((with_reducible refine (HL1.out _ (by with_reducible assumption)).mono ?_); rintro x W4 ⟨rfl, rfl⟩))
          | (go_at_call 14; ((with_reducible refine (HL2.out _ (by with_reducible assumption)).mono ?_); rintro x W5 ⟨rfl, rfl⟩))
          | (go_at_call 9; ((with_reducible refine (HTwo3.out _ _ _ hT3).mono ?_); rintro x W6 ⟨rfl, hT6⟩; clear hT3))
          | fail)
        go_ret
        exact ⟨rfl, hT6.b⟩
theorem chainFew_any (a : Option Addr) (n c : Nat) (L : List V) (pa : Option Addr) (pn pc : Nat) (Z : Nat → Int) (w : World) (hn : L.length = n) (hL : VL w a L) (hok : ∀ v ∈ L, v.ok)
    (hnc : pn ≤ pc) (hcm : pc ≤ maxLen) (hI : Ints .u64 w pa pn Z) (hZ : ∀ i, i < pn → 0 ≤ Z i ∧ Z i ≤ 18446744073709551615) :
    Calls Try.prog 4 #[.slice a n c, .slice pa pn pc] w fun x w' => x = .returned (.bool true) ∧ Below w.heap.size w w' := by
  obtain ⟨P, h8, hpn, hP, hP0, hmin⟩ := pins_of hI hZ
  exact chainFew_at a n c L pa pn pc P.length P w hn hL hok h8 hpn hnc hcm rfl hP hmin
end Go.Proofs.Ytpbdgfgjlccapaa.cw
