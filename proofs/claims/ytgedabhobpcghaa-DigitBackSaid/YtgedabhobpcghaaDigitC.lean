/-
  The walks of layer 2: what the document reads of bytes.
-/
import Derived.Test.YtgedabhobpcghaaDigitB
import Derived.Test.YtgedabhobpcghaaDigitA
namespace Go.Proofs.Ytgedabhobpcghaa.dw
open Go.RowKit Go.Proofs.Ytgedabhobpcghaa.ba Go.Proofs.Ytgedabhobpcghaa.dp
set_option linter.unusedVariables false

set_option maxHeartbeats 1000000 in
theorem rreadO_any (a : Option Addr) (cap : Nat) (l : List Int) (w : World) (hlc : l.length ≤ cap) (hl : cap ≤ 9223372036854775807) (hB : Bytes l) (hX : Lst .u8 w a l) :
    Calls Try.prog 9 #[.slice a l.length cap] w fun e w' => e = .returned (.tuple #[.int .u64 (readO l).1, .int .i64 (readO l).2.1, .int .i64 (readO l).2.2]) ∧ Below w.heap.size w w' := by
  cases l with
  | nil =>
    go_enter Try.func9, Try.ntmps9
    go_wp2_with fail
    go_ret3
    exact ⟨rfl, Below.refl _ _⟩
  | cons c t =>
    have hc := hB.at (i := 0) (v := c) rfl
    have hT : Bytes t := fun v hv => hB v (by simp [hv])
    have hlc' : t.length + 1 ≤ cap := by simpa using hlc
    have ht1 : t.length + 1 ≤ 9223372036854775807 := by omega
    clear hlc
    obtain ⟨n, rfl⟩ := Int.eq_ofNat_of_zero_le hc.1
    have hY : Lst .u8 w a ((n : Int) :: t) := hX
    obtain ⟨b, off, rfl, c0⟩ := hX.at (i := 0) rfl
    rw [Nat.add_zero] at c0
    have hn : n ≤ 255 := by omega
    by_cases h8 : 8 < n
    · have h8' : (8 : Int) < (n : Int) := by omega
      have hr : readO ((n : Int) :: t) = (0, 0, 3) := by rw [readO, if_pos h8']
      rw [hr]
      clear hr
      go_enter Try.func9, Try.ntmps9
      go_wp2_with fail
      go_ret3
      exact ⟨rfl, Below.refl _ _⟩
    · have h8' : (n : Int) ≤ 8 := by omega
      have h8'' : ¬ (8 : Int) < (n : Int) := by omega
      by_cases hs : t.length < n
      · have hs' : (t.length : Int) < (n : Int) := by omega
        have hr : readO ((n : Int) :: t) = (0, 0, 4) := by rw [readO, if_neg h8'', if_pos hs']
        rw [hr]
        clear hr h8''
        go_enter Try.func9, Try.ntmps9
        go_wp2_with fail
        go_ret3
        exact ⟨rfl, Below.refl _ _⟩
      · have hs' : (n : Int) ≤ (t.length : Int) := by omega
        have hs'' : ¬ (t.length : Int) < (n : Int) := by omega
        by_cases h0 : n = 0
        · subst h0
          have hr : readO (((0 : Nat) : Int) :: t) = (0, 1, 0) := by rw [readO, if_neg h8'', if_neg hs'', if_neg (by omega)]; rfl
          rw [hr]
          rw [show ((0 : Nat) : Int) = 0 from rfl] at c0
          clear hr hc hn h8 h8' h8'' hs hs' hs'' hB hX hY
          by_cases hc1 : 1 < cap
          · have hc1' : (1 : Int) < (cap : Int) := by omega
            go_enter Try.func9, Try.ntmps9
            go_wp2_with fail
            go_loop [6, 7] (fun v i => i = .int .i64 1 ∧ v = .int .u64 0) (fun _ _ => 0)
            case atStart => exact ⟨rfl, rfl⟩
            case round =>
              obtain ⟨rfl, rfl⟩ := hrel
              go_wp2_with fail
              go_ret3
              exact ⟨rfl, Below.refl _ _⟩
          · have hc2 : cap = 1 := by omega
            have ht : t.length = 0 := by omega
            subst hc2
            go_enter Try.func9, Try.ntmps9
            go_wp2_with fail
            go_loop [6, 7] (fun v i => i = .int .i64 1 ∧ v = .int .u64 0) (fun _ _ => 0)
            case atStart => exact ⟨rfl, rfl⟩
            case round =>
              obtain ⟨rfl, rfl⟩ := hrel
              go_wp2_with fail
              go_ret3
              exact ⟨rfl, Below.refl _ _⟩
        · have h0' : (0 : Int) < (n : Int) := by omega
          have hcap1 : 1 < cap := by omega
          have hcap1' : (1 : Int) < (cap : Int) := by omega
          obtain ⟨y, hy⟩ := some_at t (i := 0) (by omega)
          obtain ⟨b', off', hbb, c1⟩ := hY.at (i := 1) (v := y) (by simpa using hy)
          cases hbb
          by_cases hz : y = 0
          · subst hz
            have hr : readO ((n : Int) :: t) = (0, 0, 3) := by rw [readO, if_neg h8'', if_neg hs'', if_pos ⟨h0', by rw [List.head?_eq_getElem?]; exact hy⟩]
            rw [hr]
            clear hr h8'' hs''
            go_enter Try.func9, Try.ntmps9
            go_wp2_with fail
            go_ret3
            exact ⟨rfl, Below.refl _ _⟩
          · have hz' : (y == 0) = false := by simpa using hz
            have hr : readO ((n : Int) :: t) = (beF 0 (t.take n), 1 + (n : Int), 0) := by
              rw [readO, if_neg h8'', if_neg hs'', if_neg (by rw [List.head?_eq_getElem?, hy]; rintro ⟨_, h⟩; exact hz (Option.some.inj h))]; rfl
            rw [hr]
            clear hr hy hX h8'' hs''
            have hn1 : (1 : Int) + (n : Int) ≤ (cap : Int) := by omega
            go_enter Try.func9, Try.ntmps9
            go_wp2_with fail
            go_loop [6, 7] (fun v i => ∃ (k : Nat), k ≤ n ∧ i = .int .i64 ((k : Int) + 1) ∧ v = .int .u64 (beF 0 (t.take k))) (fun _ i => n + 1 - (intOf i).toNat)
            case atStart => exact ⟨0, Nat.zero_le _, rfl, rfl⟩
            case round =>
              obtain ⟨k, hk, rfl, rfl⟩ := hrel
              by_cases hlt : k < n
              · obtain ⟨v, hv⟩ := some_at t (i := k) (by omega)
                obtain ⟨b2, off2, hb2, c2⟩ := hY.at (i := k + 1) (v := v) (by simpa using hv)
                cases hb2
                have hvb := hT.at hv
                obtain ⟨be0, be1⟩ := be_small t k (by omega) hT
                have htk : Hid (beF 0 (t.take (k + 1)) = beF 0 (t.take k) * 256 + v) := by show _ = _; rw [take_succ_at hv, beF_snoc]
                have hk3 : (k : Int) + 1 ≤ (t.length : Int) := by omega
                have hk4 : (k : Int) + 1 ≤ (n : Int) := by omega
                go_wp2_with fail
                go_round
                case rel => exact ⟨k + 1, by omega, by go_num, by rw [htk.out]⟩
                case measure => simp [intOf]; omega
              · have hkn : k = n := by omega
                subst hkn
                go_wp2_with fail
                go_ret3
                exact ⟨rfl, Below.refl _ _⟩
end Go.Proofs.Ytgedabhobpcghaa.dw
