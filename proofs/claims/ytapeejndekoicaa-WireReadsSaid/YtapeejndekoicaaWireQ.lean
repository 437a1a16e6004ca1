/-
  The walk of the law WireRoom.
-/
import Derived.Test.YtapeejndekoicaaWireP
namespace Go.Proofs.Ytapeejndekoicaa.ww
open Go.RowKit Go.Proofs.Ytapeejndekoicaa.ba Go.Proofs.Ytapeejndekoicaa.dp Go.Proofs.Ytapeejndekoicaa.wp Go.Proofs.Ytapeejndekoicaa.dw
set_option linter.unusedVariables false

theorem fl_at {w w' : World} {b off k : Nat} {F : List Fld} {f : Fld} (hc : ∀ i f, F[i]? = some f → w.cell? ⟨b, off + i * 3, none⟩ = some (.int .i64 f.1) ∧ w.cell? ⟨b, off + i * 3 + 1, none⟩ = some (.int .u64 f.2.1) ∧ w.cell? ⟨b, off + i * 3 + 2, none⟩ = some (.string f.2.2)) (hf : F[k]? = some f) (hb : Below w.heap.size w w') :
    w'.cell? ⟨b, off + k * 3, none⟩ = some (.int .i64 f.1) ∧ w'.cell? ⟨b, off + k * 3 + 1, none⟩ = some (.int .u64 f.2.1) ∧ w'.cell? ⟨b, off + k * 3 + 2, none⟩ = some (.string f.2.2) := by
  obtain ⟨c0, c1, c2⟩ := hc k f hf
  exact ⟨bsome hb c0 (World.block_lt_of_cell? _ _ c0), bsome hb c1 (World.block_lt_of_cell? _ _ c1), bsome hb c2 (World.block_lt_of_cell? _ _ c2)⟩
theorem wfold_take (room : Int) (F : List Fld) (k : Nat) (f : Fld) (s : List Int × Int) (hf : F[k]? = some f) : wfold room (F.take (k + 1)) s = wput room (fb f) (wfold room (F.take k) s) := by
  obtain ⟨hi, rfl⟩ := List.getElem?_eq_some_iff.1 hf
  rw [List.take_succ_eq_append_getElem hi, wfold_snoc]
theorem bytes_own {w w1 : World} {g : Nat} {s : List Int × Int} {R : Int} (h : KW w w1 g s R) (hl : s.1.length ≤ 1000000) :
    Calls Try.prog 12 #[.pointer (some ⟨g, 0, none⟩)] w1 fun x w' => ∃ a c, x = .returned (.tuple #[.slice a (if s.2 = 0 then s.1 else []).length c, .int .i64 s.2]) ∧ (if s.2 = 0 then s.1 else []).length ≤ c ∧ c ≤ maxLen ∧ Lst .u8 w' a (if s.2 = 0 then s.1 else []) ∧ (a = none → (if s.2 = 0 then s.1 else []) = []) ∧ Below w1.heap.size w1 w' := by
  obtain ⟨_, _, q, h3, _⟩ := h
  exact bytes_any g q s.1 s.2 R w1 h3 hl

set_option maxRecDepth 100000 in
set_option maxHeartbeats 4000000 in
theorem wireRoom_any (a : Option Addr) (len cap : Nat) (w : World) (hlc : len ≤ cap) (hcm : cap ≤ 9223372036854775807) (hR : RawF w a len) :
    Calls Try.prog 4 #[.slice a len cap] w fun x w' => x = .returned (.bool true) ∧ Below w.heap.size w w' := by
  have HRight := Lib.hid (right_any a len cap 20 w hlc hcm (by decide) hR)
  rw [show ((20 : Nat) : Int) = 20 from rfl] at HRight
  clear hR
  go_enter Try.func4, Try.ntmps4
  go_wp2_with (first
    | (go_at_call 9; ((with_reducible refine HRight.out.mono ?_); rintro x W1 ⟨F, aF, cF, rfl, hF, hF20, hgF, hb1⟩))
    | (go_at_call 10; ((with_reducible refine (new_own 10000 10000 (by decide) _).mono ?_); rintro x W2 ⟨rfl, hK2⟩)))
  obtain ⟨g, hg⟩ : ∃ g, g = W1.heap.size := ⟨_, rfl⟩
  rw [← hg] at hK2 ⊢
  clear hg
  have hal := allB_len F hgF
  have hfin : wfold 10000 F ([], 0) = (allB F, 0) := wfold_fits 10000 F [] (by simp; omega)
  have hfin2 : wfold (allB F).length F ([], 0) = (allB F, 0) := wfold_fits _ F [] (by simp)
  have hless := wfold_less F
  have hlen : ∀ R k, (wfold R (F.take k) ([], 0)).1.length ≤ 4200 := fun R k => by
    have h1 := wfold_len R (F.take k) ([], 0) (fun f hf => hgF f (List.mem_of_mem_take hf))
    have h2 : (F.take k).length ≤ 20 := by rw [List.length_take]; omega
    simp at h1
    omega
  have HF1 := Lib.hid hfin; have HF2 := Lib.hid hfin2; have HLS := Lib.hid hless; have HLN := Lib.hid hlen
  clear hfin hfin2 hless hlen
  go_loopw [4] (fun i wr => ∃ k : Nat, k ≤ F.length ∧ i = .int .i64 k ∧ KW W1 wr g (wfold 10000 (F.take k) ([], 0)) 10000) (fun i _ => F.length - (intOf i).toNat)
  case atStart => exact ⟨0, Nat.zero_le _, rfl, hK2⟩
  case round =>
    obtain ⟨k, hk, rfl, hK⟩ := hrel
    by_cases hlt : k < F.length
    · obtain ⟨f, hf⟩ := some_at F hlt
      have hgf := hgF f (List.mem_of_getElem? hf)
      have hs := Lib.hid (wfold_take 10000 F k f ([], 0) hf)
      rcases hF with h0 | ⟨b, off, rfl, hc⟩
      · subst h0; simp at hlt
      obtain ⟨d0, d1, d2⟩ := fl_at hc hf hK.2.1
      have hltI : (k : Int) < (F.length : Int) := by omega
      have hl0 := HLN.out 10000 k
      obtain ⟨st, hst⟩ : ∃ st, st = wfold 10000 (F.take k) ([], 0) := ⟨_, rfl⟩
      rw [← hst] at hK hs hl0
      have HC := Lib.hid (hK.call (s' := wput 10000 (fb f) st) fun q hq => put_any g q st.1 st.2 10000 f wr hq (by omega) (by decide) (by decide) hgf)
      clear hc hf hst hK hl0
      go_wp2_with (go_at_call 11; ((with_reducible refine HC.out.mono ?_); rintro x W3 ⟨rfl, hK3⟩))
      go_roundw
      case rel => exact ⟨k + 1, by omega, by go_num, by rw [hs.out]; exact hK3⟩
      case measure => simp [intOf]; omega
    · have hkn : k = F.length := by omega
      rw [hkn, List.take_length, HF1.out] at hK
      have hge : (F.length : Int) ≤ (k : Int) := by omega
      have HB := bytes_own hK (by simp only; omega)
      simp only [if_true] at HB
      have HBH := Lib.hid HB
      obtain ⟨n, hn⟩ : ∃ n, n = (allB F).length := ⟨_, rfl⟩
      rw [← hn] at HBH
      have hnn : (n : Int) = if (n : Int) < 0 then 0 else (n : Int) := by rw [if_neg (by omega)]
      have hn42 : n ≤ 4200 := by omega
      have Hnn := Lib.hid hnn
      have Hn := Lib.hid hn
      have hKc := hK.2.1
      clear HB hnn hal hkn hk hn
      go_wp2_with (first
        | (go_at_call 12; ((with_reducible refine HBH.out.mono ?_); rintro x W4 ⟨a4, c4, rfl, _, _, hL4, _, hb4⟩; have hb04 := bthen hKc hb4))
        | (go_at_call 10; ((with_reducible refine (new_own (n : Int) (n : Int) Hnn.out _).mono ?_); rintro x W5 ⟨rfl, hK5⟩))
        | (go_at_call 10; ((with_reducible refine (new_own ((n : Int) - 1) (less n) rfl _).mono ?_); rintro x W6 ⟨rfl, hK6⟩)))
      have hKK := K2.make hK5 hK6
      obtain ⟨g1, hg1⟩ : ∃ g, g = W4.heap.size := ⟨_, rfl⟩
      obtain ⟨g2, hg2⟩ : ∃ g, g = W5.heap.size := ⟨_, rfl⟩
      rw [← hg1, ← hg2] at hKK ⊢
      clear hg1 hg2 hK5 hK6
      have hn0 : 0 ≤ (n : Int) := by omega
      have hls0 : 0 ≤ less n := by unfold less; split <;> omega
      have hls1 : less n ≤ 9223372036854775807 := by unfold less; split <;> omega
      go_loopw [9] (fun i wr => ∃ j : Nat, j ≤ F.length ∧ i = .int .i64 j ∧ K2 W4 wr g1 g2 (wfold n (F.take j) ([], 0)) (wfold (less n) (F.take j) ([], 0)) n (less n)) (fun i _ => F.length - (intOf i).toNat)
      case atStart => exact ⟨0, Nat.zero_le _, rfl, hKK⟩
      case round =>
        clear hKK
        obtain ⟨j, hj, rfl, hKK⟩ := hrel
        by_cases hlt : j < F.length
        · obtain ⟨f, hf⟩ := some_at F hlt
          have hgf := hgF f (List.mem_of_getElem? hf)
          have hs1 := Lib.hid (wfold_take n F j f ([], 0) hf)
          have hs2 := Lib.hid (wfold_take (less n) F j f ([], 0) hf)
          rcases hF with h0 | ⟨b, off, rfl, hc⟩
          · subst h0; simp at hlt
          have hat := Lib.hid fun (W : World) (h : Below W1.heap.size W1 W) => fl_at hc hf h
          obtain ⟨d0, d1, d2⟩ := hat.out _ (hb04.trans (hKK.2.2.2.1.mono hb04.size))
          have hltI : (j : Int) < (F.length : Int) := by omega
          have hl1 := HLN.out n j
          have hl2 := HLN.out (less n) j
          obtain ⟨s1, hst1⟩ : ∃ st, st = wfold n (F.take j) ([], 0) := ⟨_, rfl⟩
          obtain ⟨s2, hst2⟩ : ∃ st, st = wfold (less n) (F.take j) ([], 0) := ⟨_, rfl⟩
          rw [← hst1] at hKK hs1 hl1
          rw [← hst2] at hKK hs2 hl2
          have HC1 := Lib.hid (hKK.call (s' := wput n (fb f) s1) fun q hq => put_any g1 q s1.1 s1.2 n f wr hq (by omega) hn0 (by omega) hgf)
          have HC2 := Lib.hid fun (W : World) (h : K2 W4 W g1 g2 (wput n (fb f) s1) s2 n (less n)) => (h.swap.call (s' := wput (less n) (fb f) s2) fun q hq => put_any g2 q s2.1 s2.2 (less n) f W hq (by omega) hls0 hls1 hgf)
          clear hc hf hst1 hst2 hKK hl1 hl2
          go_wp2_with (first
            | (go_at_call 11; ((with_reducible refine HC1.out.mono ?_); rintro x W7 ⟨rfl, hK7⟩; obtain ⟨e0, e1, e2⟩ := hat.out _ (hb04.trans (hK7.2.2.2.1.mono hb04.size))))
            | (go_at_call 11; ((with_reducible refine (HC2.out _ hK7).mono ?_); rintro x W8 ⟨rfl, hK8⟩)))
          go_roundw
          case rel => exact ⟨j + 1, by omega, by go_num, by rw [hs1.out, hs2.out]; exact hK8.swap⟩
          case measure => simp [intOf]; omega
        · have hjn : j = F.length := by omega
          rw [hjn, List.take_length] at hKK
          have hgeI : (F.length : Int) ≤ (j : Int) := by omega
          have hHF2 := HF2.out
          have hLS := HLS.out
          rw [← Hn.out] at hHF2 hLS
          rw [hHF2] at hKK
          have hbig : (allB F).length ≤ 1000000 := by rw [← Hn.out]; omega
          have HX := bytes_own hKK.one hbig
          simp only [if_true] at HX
          rw [← Hn.out] at HX
          have HXH := Lib.hid HX
          have HSame := Lib.hid fun (W : World) (a1 a2 : Option Addr) (c1 c2 : Nat) (h1 : Lst .u8 W a1 (allB F)) (h2 : Lst .u8 W a2 (allB F)) => same_any a1 a2 c1 c2 (allB F) (allB F) W (by omega) (by omega) h1 h2
          rw [← Hn.out, decide_eq_true rfl] at HSame
          have hl2 := HLN.out (less n) F.length
          rw [List.take_length] at hl2
          obtain ⟨s2, hs2⟩ : ∃ s2, s2 = wfold (less n) F ([], 0) := ⟨_, rfl⟩
          rw [← hs2] at hKK hLS hl2
          obtain ⟨l2, e2⟩ := s2
          have HYH := Lib.hid fun (W : World) (h : KW W4 W g2 (l2, e2) (less n)) => bytes_own h (by simp only at hl2 ⊢; omega)
          have hKy := hKK.swap.one
          have hb4K := hKy.2.1
          clear HX hKK hs2 hl2 hHF2 hjn hj
          rcases hLS with ⟨h2, h3⟩ | ⟨h2, h3⟩
          · simp only at h2
            subst h2
            have h3I : (0 : Int) < (n : Int) := by omega
            simp only [show ((2 : Int) = 0) = False from by simp, if_false] at HYH
            go_wp2_with (first
              | (go_at_call 12; ((with_reducible refine HXH.out.mono ?_); rintro x W9 ⟨a9, c9, rfl, _, _, hL9, _, hb9⟩; replace hKy := hKy.below hb9; replace hb4K := bthen hb4K hb9; replace hL4 := hL4.below hb4K))
              | (go_at_call 12; ((with_reducible refine (HYH.out _ hKy).mono ?_); rintro x W10 ⟨a10, c10, rfl, _, _, _, _, hb10⟩; replace hb4K := bthen hb4K hb10; replace hL4 := hL4.below hb10; replace hL9 := hL9.below hb10))
              | (go_at_call 14; ((with_reducible refine (known_any _).mono ?_); rintro x W11 ⟨rfl, hb11⟩; replace hb4K := bthen hb4K hb11; replace hL4 := hL4.below hb11; replace hL9 := hL9.below hb11))
              | (go_at_call 15; ((with_reducible refine (HSame.out _ _ _ _ _ hL4 hL9).mono ?_); rintro x W12 ⟨rfl, hb12⟩; replace hb4K := bthen hb4K hb12)))
            go_ret
            exact ⟨ret_bool (by simp), bthen hb1 (hb04.trans (hb4K.mono hb04.size))⟩
          · simp only [Prod.mk.injEq] at h2
            obtain ⟨rfl, rfl⟩ := h2
            have h3I : (n : Int) ≤ (0 : Int) := by omega
            clear h3
            simp only [if_true] at HYH
            go_wp2_with (first
              | (go_at_call 12; ((with_reducible refine HXH.out.mono ?_); rintro x W9 ⟨a9, c9, rfl, _, _, hL9, _, hb9⟩; replace hKy := hKy.below hb9; replace hb4K := bthen hb4K hb9; replace hL4 := hL4.below hb4K))
              | (go_at_call 12; ((with_reducible refine (HYH.out _ hKy).mono ?_); rintro x W10 ⟨a10, c10, rfl, _, _, _, _, hb10⟩; replace hb4K := bthen hb4K hb10; replace hL4 := hL4.below hb10; replace hL9 := hL9.below hb10))
              | (go_at_call 14; ((with_reducible refine (known_any _).mono ?_); rintro x W11 ⟨rfl, hb11⟩; replace hb4K := bthen hb4K hb11; replace hL4 := hL4.below hb11; replace hL9 := hL9.below hb11))
              | (go_at_call 15; ((with_reducible refine (HSame.out _ _ _ _ _ hL4 hL9).mono ?_); rintro x W12 ⟨rfl, hb12⟩; replace hb4K := bthen hb4K hb12)))
            go_ret
            exact ⟨ret_bool (by simp), bthen hb1 (hb04.trans (hb4K.mono hb04.size))⟩
end Go.Proofs.Ytapeejndekoicaa.ww
