/-
  The walks of layer 3: the document's reader reads a text; any field.
-/
import Derived.Test.YtaekpejpcafnkaaWireY
namespace Go.Proofs.Ytaekpejpcafnkaa.ww
open Go.RowKit Go.Proofs.Ytaekpejpcafnkaa.ba Go.Proofs.Ytaekpejpcafnkaa.dp Go.Proofs.Ytaekpejpcafnkaa.wp Go.Proofs.Ytaekpejpcafnkaa.dw
set_option maxRecDepth 8000
set_option linter.unusedVariables false

set_option maxRecDepth 100000 in
set_option maxHeartbeats 4000000 in
theorem rread_txt (n : Nat) (s : ByteArray) (a : Option Addr) (c : Nat) (l : List Int) (w : World) (hn : n < 1000000) (hc : l.length ≤ c) (hcm : c ≤ maxLen) (hBy : Bytes l) (hL : Lst .u8 w a l) :
    Calls Try.prog 20 #[.agg #[.slice a l.length c, .int .i64 0], .agg #[.int .i64 4, .int .u64 n, .string s]] w fun x w' => RRd w w' a l ((0, (tkF [] (txtF n l) l 0).1), (tkF [] (txtF n l) l 0).2) x := by
  have hcm' := hcm
  unfold maxLen at hcm'
  obtain ⟨i0, hi, hz0, hz1, hz2⟩ := info_parts info5
  have HR := Lib.hid fun (W : World) (h : Below w.heap.size w W) => rreadS_any a c l W hc hcm' hBy (hL.below h)
  have hbd := readS_bounds l hBy
  have hF : (((0 : Int), (tkF [] (txtF n l) l 0).1), (tkF [] (txtF n l) l 0).2) = if (readS l).2.2 = 0 then (if (n : Int) < (readS l).1 then ((0, []), l, 2) else if (l.length : Int) - (readS l).2.1 < (readS l).1 then ((0, []), l, 4) else ((0, (l.drop (readS l).2.1.toNat).take (readS l).1.toNat), l.drop ((readS l).2.1 + (readS l).1).toNat, 0)) else ((0, []), l, (readS l).2.2) := by
    unfold tkF txtF
    rw [if_pos rfl, if_neg (by omega : ¬ (n : Int) < 0)]
    split
    · split
      · rfl
      · split <;> rfl
    · rfl
  rw [hF]
  clear hF
  obtain ⟨N, hN⟩ : ∃ N, N = (readS l).1 := ⟨_, rfl⟩
  obtain ⟨k, hk⟩ : ∃ k, k = (readS l).2.1 := ⟨_, rfl⟩
  obtain ⟨e, he⟩ : ∃ e, e = (readS l).2.2 := ⟨_, rfl⟩
  rw [← hN, ← hk, ← he] at HR hbd ⊢
  clear hN hk he
  have HF := Lib.hid fun (e : Int) (W : World) => fail_any a l.length c 0 e W
  have hw0 := tri_below w #[.slice a l.length c, .int .i64 0] #[.int .i64 4, .int .u64 n, .string s]
  unfold tri at hw0
  by_cases h0 : e = 0
  · subst h0
    obtain ⟨g1, g2, g3, g4⟩ := hbd rfl
    obtain ⟨N, rfl⟩ := Int.eq_ofNat_of_zero_le g1
    obtain ⟨q, rfl⟩ := Int.eq_ofNat_of_zero_le (by omega : 0 ≤ k)
    clear hbd
    rw [if_pos rfl]
    by_cases hm : (n : Int) < (N : Int)
    · rw [if_pos hm]
      go_enter Try.func20, Try.ntmps20
      go_wp2_with (first
        | (go_at_call 49; ((with_reducible refine (HR.out _ (bthen hw0 (box_below _ _))).mono ?_); rintro x W1 ⟨rfl, hb1⟩; have hT := Tri.lit hb1; obtain ⟨c0, c1, d0, d1, d2, e0, e1, f0, f1, f2⟩ := hT.cells; clear hb1))
        | (go_at_call 48; ((with_reducible refine (HF.out _ _).mono ?_); rintro x W2 ⟨rfl, hb2⟩; have hT2 := hT.on hb2; clear c0 c1 d0 d1 d2 e0 e1 f0 f1 f2; obtain ⟨c0, c1, d0, d1, d2, e0, e1, f0, f1, f2⟩ := hT2.cells)))
      exact bodyPost_ret (v := .tuple #[.agg #[.slice a l.length c, .int .i64 2], .int .u64 0, .string ⟨#[]⟩]) (by simp [results, Try.results20, go_sem, e0, e1]) rfl ⟨a, c, rfl, hc, hcm, fun _ h => h, res_set hT2.b _ _⟩
    · rw [if_neg hm]
      have hm' : (N : Int) ≤ (n : Int) := by omega
      have hN6 : (N : Int) ≤ 1000000 := by omega
      obtain ⟨D, hD⟩ := Int.eq_ofNat_of_zero_le (by omega : 0 ≤ (l.length : Int) - (q : Int))
      have hDm : (D : Int) ≤ 9223372036854775807 := by omega
      have hD2 : q + D = l.length := by omega
      rw [hD]
      by_cases hs : (D : Int) < (N : Int)
      · rw [if_pos hs]
        clear hm g2
        have HD2 := Lib.hid hD2
        clear hD2
        go_enter Try.func20, Try.ntmps20
        go_wp2_with (first
          | (go_at_call 49; ((with_reducible refine (HR.out _ (bthen hw0 (box_below _ _))).mono ?_); rintro x W1 ⟨rfl, hb1⟩; have hT := Tri.lit hb1; obtain ⟨c0, c1, d0, d1, d2, e0, e1, f0, f1, f2⟩ := hT.cells; clear hb1))
          | (go_at_call 48; ((with_reducible refine (HF.out _ _).mono ?_); rintro x W2 ⟨rfl, hb2⟩; have hT2 := hT.on hb2; clear c0 c1 d0 d1 d2 e0 e1 f0 f1 f2; obtain ⟨c0, c1, d0, d1, d2, e0, e1, f0, f1, f2⟩ := hT2.cells)))
        exact bodyPost_ret (v := .tuple #[.agg #[.slice a l.length c, .int .i64 4], .int .u64 0, .string ⟨#[]⟩]) (by simp [results, Try.results20, go_sem, e0, e1]) rfl ⟨a, c, rfl, hc, hcm, fun _ h => h, res_set hT2.b _ _⟩
      · rw [if_neg hs]
        have hs' : (N : Int) ≤ (D : Int) := by omega
        have hn1 : (N : Int) ≤ 9223372036854775807 := by omega
        have hn2 : (q : Int) + (N : Int) ≤ 9223372036854775807 := by omega
        have hn3 : (0 : Int) ≤ (q : Int) + (N : Int) := by omega
        have hn4 : (q : Int) + (N : Int) ≤ (c : Int) := by omega
        have hn5 : (q : Int) + (N : Int) ≤ (l.length : Int) := by omega
        obtain ⟨a', c', hsl, hcut⟩ := run_cut_mid (P := Try.prog) 22 5 Try.underlying22 i0 hi hz1 a l.length c q N (by omega) hc
        obtain ⟨a2, n2, c2, hcut2, hn2, hc2, hc3, hL2, _⟩ := run_cut_from (P := Try.prog) 22 5 Try.underlying22 i0 hi hz1 a l.length c (q + N) (by omega) hc
        rw [Int.natCast_add] at hcut2
        have hl2 : (l.drop (q + N)).length = n2 := by rw [List.length_drop, hn2]
        have hLL := Lib.hid fun (W0 : World) (h : Lst .u8 W0 a l) => hL2 .u8 W0 l rfl h
        have hlen : ((l.drop q).take N).length = N := by rw [List.length_take, List.length_drop]; omega
        have hcv := Lib.hid fun (W : World) (h : Below w.heap.size w W) => conv_lst (P := Try.prog) W 22 9 5 Try.underlying22 Try.underlying5 Try.underlying9 a' N c' _ hlen (hcut .u8 W l rfl (hL.below h))
        have hel : ((q : Int) + (N : Int)).toNat = q + N := by omega
        rw [Int.toNat_natCast, Int.toNat_natCast, hel]
        have HD2 := Lib.hid hD2; have HN2 := Lib.hid hn2
        clear hm hs hcut hlen hD2 g2 hn2 hL2 hel
        go_enter Try.func20, Try.ntmps20
        go_wp2_with (first
          | (go_at_call 49; ((with_reducible refine (HR.out _ (bthen hw0 (box_below _ _))).mono ?_); rintro x W1 ⟨rfl, hb1⟩; have hT := Tri.lit hb1; obtain ⟨c0, c1, d0, d1, d2, e0, e1, f0, f1, f2⟩ := hT.cells; have hcv1 := hcv.out W1 hT.b; clear hb1)))
        exact bodyPost_ret (v := .tuple #[.agg #[.slice a2 n2 c2, .int .i64 0], .int .u64 0, .string (strOfNums ((l.drop q).take N))]) (by simp [results, Try.results20, go_sem, e0, e1]) rfl ⟨a2, c2, by rw [← hl2], by show (l.drop (q + N)).length ≤ c2; omega, Nat.le_trans hc3 hcm, hLL.out, res_set (Kept.below (S := fun j => j = w.heap.size) (Kept.of_set (S := fun j => j = w.heap.size) (p := ⟨w.heap.size, 0, none⟩) _ rfl) hT.b (fun j hj => by omega)) _ _⟩
  · rw [if_neg h0]
    have h0' : (e == 0) = false := by simpa using h0
    clear h0 hbd
    go_enter Try.func20, Try.ntmps20
    go_wp2_with (first
      | (go_at_call 49; ((with_reducible refine (HR.out _ (bthen hw0 (box_below _ _))).mono ?_); rintro x W1 ⟨rfl, hb1⟩; have hT := Tri.lit hb1; obtain ⟨c0, c1, d0, d1, d2, e0, e1, f0, f1, f2⟩ := hT.cells; clear hb1))
      | (go_at_call 48; ((with_reducible refine (HF.out _ _).mono ?_); rintro x W2 ⟨rfl, hb2⟩; have hT2 := hT.on hb2; clear c0 c1 d0 d1 d2 e0 e1 f0 f1 f2; obtain ⟨c0, c1, d0, d1, d2, e0, e1, f0, f1, f2⟩ := hT2.cells)))
    exact bodyPost_ret (v := .tuple #[.agg #[.slice a l.length c, .int .i64 e], .int .u64 0, .string ⟨#[]⟩]) (by simp [results, Try.results20, go_sem, e0, e1]) rfl ⟨a, c, rfl, hc, hcm, fun _ h => h, res_set hT2.b _ _⟩

/-- What the document's reader does is what get does. -/
theorem rread_any (k n : Nat) (s : ByteArray) (a : Option Addr) (c : Nat) (l : List Int) (e : Int) (w : World) (hk : k < 5) (hn : n < 18446744073709551616) (h4 : k = 4 → n < 1000000) (hc : l.length ≤ c) (hcm : c ≤ maxLen) (hBy : Bytes l) (hL : Lst .u8 w a l) :
    Calls Try.prog 20 #[.agg #[.slice a l.length c, .int .i64 e], .agg #[.int .i64 k, .int .u64 n, .string s]] w fun x w' => RRd w w' a l (getF k n l e) x := by
  by_cases he : e = 0
  · subst he
    have hk5 : k = 0 ∨ k = 1 ∨ k = 2 ∨ k = 3 ∨ k = 4 := by omega
    rcases hk5 with rfl | rfl | rfl | rfl | rfl
    · exact rread_fix0 n s a c l w hc hcm hBy hL
    · exact rread_fix1 n s a c l w hc hcm hBy hL
    · exact rread_fix2 n s a c l w hc hcm hBy hL
    · exact rread_num n s a c l w hn hc hcm hBy hL
    · have eF : getF 4 n l 0 = ((0, (tkF [] (txtF n l) l 0).1), (tkF [] (txtF n l) l 0).2) := by
        show ((0, (tkF [] (txtF (n % 1000000 : Nat) l) l 0).1), (tkF [] (txtF (n % 1000000 : Nat) l) l 0).2) = _
        rw [Nat.mod_eq_of_lt (h4 rfl)]
      rw [eF]
      exact rread_txt n s a c l w (h4 rfl) hc hcm hBy hL
  · have he' : (e == 0) = false := by simpa using he
    have eF : getF k n l e = ((0, []), l, e) := by
      unfold getF tkF
      simp only [if_neg he]
      repeat' split
      all_goals rfl
    rw [eF]
    exact rread_bad k n s a c l e w hc hcm hL he'
end Go.Proofs.Ytaekpejpcafnkaa.ww
