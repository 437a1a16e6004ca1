/-
  The walks of layer 2: the document's bytes of numbers, and how many there are.
-/
import Derived.Test.YtgedabhobpcghaaDigitPlainH
import Derived.Test.YtgedabhobpcghaaRow
import Derived.Test.YtgedabhobpcghaaDigitJ
namespace Go.Proofs.Ytgedabhobpcghaa.dw
open Go.RowKit Go.Proofs.Ytgedabhobpcghaa.ba Go.Proofs.Ytgedabhobpcghaa.dp Go.Proofs.Ytgedabhobpcghaa.bp
set_option linter.unusedVariables false

theorem sizeS_any (n : Nat) (w : World) (hn : n < 18446744073709551616) : Calls Try.prog 20 #[.int .u64 n] w fun x w' => x = .returned (.int .i64 ((smaL n).length : Int)) ∧ w = w' := by
  obtain ⟨h1, h2, h3⟩ := topW_small n hn
  have hb := top_bounds (fun i => n.testBit i) 64
  obtain ⟨T, hT⟩ : ∃ T, T = topW n := ⟨_, rfl⟩
  have b1 : -1 ≤ T := by rw [hT]; exact hb.1
  have b2 : T < 64 := by rw [hT]; exact hb.2
  have ht := bw.top_any (n : Int) w (by omega) (by omega)
  rw [Int.toNat_natCast, ← hT] at ht
  rw [← hT] at h1
  by_cases h4 : (T + 7) / 7 ≤ 1
  · rw [if_pos h4] at h1
    have h1' := Lib.hid h1
    clear h1 hb hT
    go_enter Try.func20, Try.ntmps20
    go_wp2_with (go_at_call 26; refine ht.mono ?_; rintro x W1 ⟨rfl, rfl⟩)
    go_ret
    exact ⟨ret_int (by rw [← h1'.out]), rfl⟩
  · rw [if_neg h4] at h1
    have h1' := Lib.hid h1
    clear h1 hb hT
    go_enter Try.func20, Try.ntmps20
    go_wp2_with (go_at_call 26; refine ht.mono ?_; rintro x W1 ⟨rfl, rfl⟩)
    go_ret
    exact ⟨ret_int (by rw [← h1'.out]), rfl⟩

set_option maxHeartbeats 1000000 in
set_option maxRecDepth 20000 in
theorem rord_any (n : Nat) (w : World) (hn : n < 18446744073709551616) :
    Calls Try.prog 19 #[.int .u64 n] w fun x w' => OwnB w.heap.size w w' (ordL n) x := by
  obtain ⟨i0, hi, hz0, hz1, hz2⟩ := info_parts info5
  go_enter Try.func19, Try.ntmps19
  go_wp2_with fail
  go_loopw [0, 3] (fun i o wr => ∃ (m : Nat) (l : List Int), m < 18446744073709551616 ∧ i = .int .u64 m ∧ l.length ≤ 8 ∧ wr.ownsRow w.heap.size 5 1 o l.length (l.map (Value.int .u8)) ∧ Hid (beN n = beN m ++ l) ∧ Below w.heap.size w wr) (fun i _ _ => (intOf i).toNat)
  case atStart => exact ⟨n, [], hn, rfl, by decide, World.ownsRow_nil _ _ _ _, by show _ = _; simp, Below.refl _ _⟩
  case round =>
    obtain ⟨m, l, hm, rfl, hl, hown, hr, hbel⟩ := hrel
    have hz := hbel.size
    obtain ⟨a, c, hv, _, _⟩ := own_form hown
    subst hv
    have hL := Lst.own hown
    by_cases h0 : m = 0
    · have hr2 : Hid (beN n = l) := by show _ = _; rw [hr.out, h0, beN_zero]; rfl
      have h0' : (m : Int) ≤ 0 := by omega
      clear h0 hm
      go_wp2_with (at_builtin; (refine wpList_append_lst rfl _ _ 22 rfl w.heap.size 5 .u8 i0 (.int .u8 0) 1 Try.underlying22 hi hz0 hz1 hz2 rfl (.slice (some ⟨wr.heap.size, 0, none⟩) 1 1) 1 [(l.length : Int)] rfl (own_new wr w.heap.size _ _ _ rfl hz (by unfold maxLen; omega)) a l.length c l rfl rfl (hL.below ((Below.refl _ _).alloc (Nat.le_refl _) _)) (by omega) (by omega) (by simp; omega) ?_; intro v2 W2 hown2 hg2))
      obtain ⟨a2, c2, hv2, _, _⟩ := own_form hown2
      subst hv2
      go_ret
      have e : ordL n = (l.length : Int) :: l := by rw [ordL_beN, hr2.out]
      rw [e]
      refine ⟨a2, c2, ?_, ?_, ?_⟩
      · simp [Nat.add_comm]
      · rw [show ((l.length : Int) :: l).length = 1 + l.length from by simp; omega]
        exact hown2
      · exact (hbel.alloc hz _).grown hg2 (by simp; omega) (fun k hk => by simp [Value.ownBlock] at hk; omega)
    · have h0' : (0 : Int) < (m : Int) := by omega
      have hr2 : Hid (beN n = beN (m / 256) ++ (((m % 256 : Nat) : Int) :: l)) := by show _ = _; rw [hr.out, beN_step m hm h0]; simp
      have hlen : (beN n).length ≤ 8 := by unfold beN; rw [beB_len]; exact (topW_size n hn).2
      have hl2 : l.length + 1 ≤ 8 := by
        have := congrArg List.length hr2.out
        simp at this
        omega
      clear hlen
      go_wp2_with (at_builtin; (refine wpList_append_lst rfl _ _ 22 rfl w.heap.size 5 .u8 i0 (.int .u8 0) 1 Try.underlying22 hi hz0 hz1 hz2 rfl (.slice (some ⟨wr.heap.size, 0, none⟩) 1 1) 1 [((m % 256 : Nat) : Int)] rfl (own_new wr w.heap.size 5 [.int .u8 ((m % 256 : Nat) : Int)] 1 rfl hz (by unfold maxLen; omega)) a l.length c l rfl rfl (hL.below ((Below.refl _ _).alloc (Nat.le_refl _) _)) (by omega) (by omega) (by simp; omega) ?_; intro v2 W2 hown2 hg2))
      go_roundw
      case rel =>
        refine ⟨m / 256, ((m % 256 : Nat) : Int) :: l, by omega, by rw [Int.natCast_ediv]; rfl, by simp; omega, ?_, hr2, (hbel.alloc hz _).grown hg2 (by simp; omega) (fun k hk => by simp [Value.ownBlock] at hk; omega)⟩
        rw [show ((((m % 256 : Nat) : Int)) :: l).length = 1 + l.length from by simp; omega]
        exact hown2
      case measure => simp [intOf]; omega

set_option maxHeartbeats 1000000 in
set_option maxRecDepth 20000 in
theorem rsma_any (n : Nat) (w : World) (hn : n < 18446744073709551616) :
    Calls Try.prog 21 #[.int .u64 n] w fun x w' => OwnB w.heap.size w w' (smaL n) x := by
  obtain ⟨i0, hi, hz0, hz1, hz2⟩ := info_parts info5
  go_enter Try.func21, Try.ntmps21
  go_wp2_with fail
  go_loopg [0, 3] 10 (fun g i o wr => ∃ (m : Nat) (l' : List Int), m < 18446744073709551616 ∧ m < 128 ^ g ∧ 1 ≤ g ∧ g ≤ 10 ∧ i = .int .u64 m ∧ l'.length + g ≤ 10 ∧ wr.ownsRow w.heap.size 5 1 o l'.length (l'.map (Value.int .u8)) ∧ Hid (smaL n = l' ++ smaK g m) ∧ Below w.heap.size w wr)
  case atStart => exact ⟨n, [], hn, by omega, by omega, Nat.le_refl _, rfl, by simp, World.ownsRow_nil _ _ _ _, rfl, Below.refl _ _⟩
  case round =>
    obtain ⟨m, l', hm, hmg, hg1, hg10, rfl, hll, hown', hr, hbel⟩ := hrel
    have hz := hbel.size
    cases gk with
    | zero => omega
    | succ g =>
      by_cases hlt : m < 128
      · have hs2 : Hid (smaK (g + 1) m = [(m : Int)]) := by show _ = _; rw [smaK, if_pos hlt]
        have hlt' : (m : Int) ≤ 127 := by omega
        clear hmg
        go_wp2_with (at_builtin; refine wpList_append_one rfl _ _ 22 rfl w.heap.size 5 i0 (.int .u8 0) 1 Try.underlying22 hi hz0 hz1 hz2 rfl u3 _ _ rfl hown' _ rfl _ rfl (by omega) (by omega) (by omega) ?_; intro v2 W2 hown2 hg2)
        obtain ⟨a2, c2, rfl, _, _⟩ := own_form hown2
        go_ret
        refine ⟨a2, c2, ?_, ?_, below_append hbel (by omega) hown' (Nat.le_refl _) hg2⟩
        · rw [hr.out, hs2.out]; simp
        · rw [hr.out, hs2.out]
          simpa using hown2
      · have hs2 : Hid (smaK (g + 1) m = ((m % 128 + 128 : Nat) : Int) :: smaK g (m / 128)) := by show _ = _; rw [smaK, if_neg hlt]
        have hge : (127 : Int) < (m : Int) := by omega
        go_wp2_with (at_builtin; refine wpList_append_one rfl _ _ 22 rfl w.heap.size 5 i0 (.int .u8 0) 1 Try.underlying22 hi hz0 hz1 hz2 rfl u3 _ _ rfl hown' _ rfl _ rfl (by omega) (by omega) (by omega) ?_; intro v2 W2 hown2 hg2)
        go_roundg g
        case measure => omega
        case rel =>
          refine ⟨m / 128, l' ++ [((m % 128 + 128 : Nat) : Int)], by omega, ?_, ?_, by omega, by rw [Int.natCast_ediv]; rfl, by simp; omega, ?_, ?_, below_append hbel (by omega) hown' (Nat.le_refl _) hg2⟩
          · rw [Nat.pow_succ] at hmg; omega
          · rcases Nat.eq_zero_or_pos g with h | h
            · subst h; simp at hmg; omega
            · exact h
          · simpa using hown2
          · show _ = _
            rw [hr.out, hs2.out]; simp
end Go.Proofs.Ytgedabhobpcghaa.dw
