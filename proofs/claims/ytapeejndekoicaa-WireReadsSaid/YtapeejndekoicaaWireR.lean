/-
  The walks of layer 3's law: a field is got; fields that were put are got as they were.
-/
import Derived.Test.YtapeejndekoicaaWireP
import Derived.Test.YtapeejndekoicaaBackPlain
namespace Go.Proofs.Ytapeejndekoicaa.ww
open Go.RowKit Go.Proofs.Ytapeejndekoicaa.ba Go.Proofs.Ytapeejndekoicaa.dp Go.Proofs.Ytapeejndekoicaa.wp Go.Proofs.Ytapeejndekoicaa.dw
set_option linter.unusedVariables false
variable {B : Nat}

theorem bytes_beB (n : Nat) : ∀ k, Bytes (beB n k) := by
  intro k
  induction k with
  | zero => intro v hv; simp [beB] at hv
  | succ k ih =>
    intro v hv
    rw [beB] at hv
    rcases List.mem_cons.1 hv with rfl | h
    · omega
    · exact ih v h
theorem bytes_smaK : ∀ f n, Bytes (smaK f n) := by
  intro f
  induction f with
  | zero => intro n v hv; simp [smaK] at hv
  | succ f ih =>
    intro n v hv
    rw [smaK] at hv
    split at hv
    · simp at hv; omega
    · rcases List.mem_cons.1 hv with rfl | h
      · omega
      · exact ih _ v h
theorem bytes_strL (s : ByteArray) : Bytes (strL s) := by
  intro v hv
  simp only [strL, List.mem_map] at hv
  obtain ⟨b, _, rfl⟩ := hv
  have := b.toNat_lt
  omega
theorem fb_bytes (f : Fld) : Bytes (fb f) := by
  unfold fb
  split
  · intro v hv; simp at hv; omega
  · split
    · exact bytes_beB _ _
    · split
      · exact bytes_beB _ _
      · split
        · exact bytes_smaK _ _
        · intro v hv
          rcases List.mem_append.1 hv with h | h
          · exact bytes_smaK _ _ v h
          · exact bytes_strL _ v h
set_option maxHeartbeats 1000000 in
theorem get_any (g k most : Nat) (l : List Int) (e : Int) (w : World) (hk : k < 5) (hmost : most < 18446744073709551616) (hW : Rd B w g l e) :
    Calls Try.prog 17 #[.pointer (some ⟨g, 0, none⟩), .int .i64 k, .int .u64 most] w fun x w' => x = .returned (.tuple #[.int .u64 (getF k most l e).1.1, .string (strOfNums (getF k most l e).1.2)]) ∧ RdDone B w w' g (getF k most l e).2.1 (getF k most l e).2.2 := by
  have hk5 : k = 0 ∨ k = 1 ∨ k = 2 ∨ k = 3 ∨ k = 4 := by omega
  rcases hk5 with rfl | rfl | rfl | rfl | rfl
  · have hb := fix_bounds 1 l e hW.bytes
    rw [show (256 : Int) ^ 1 = 256 from by decide] at hb
    have H := Lib.hid (rbyte_any g l e w hW)
    have eF : getF 0 most l e = (((tkF 0 (fixF 1 l) l e).1, []), (tkF 0 (fixF 1 l) l e).2) := rfl
    rw [eF]
    generalize tkF 0 (fixF 1 l) l e = r at *
    obtain ⟨v, l', e'⟩ := r
    obtain ⟨b1, b2⟩ := hb
    simp only [show ((0 : Nat) : Int) = 0 from rfl] at b1 b2 H ⊢
    clear eF hW
    go_enter Try.func17, Try.ntmps17
    go_wp2_with ((with_reducible refine H.out.mono ?_); rintro x W1 ⟨rfl, hD⟩)
    go_ret2
    exact ⟨rfl, hD⟩
  · have hb := fix_bounds 2 l e hW.bytes
    rw [show (256 : Int) ^ 2 = 65536 from by decide] at hb
    have H := Lib.hid (rshort_any g l e w hW)
    have eF : getF 1 most l e = (((tkF 0 (fixF 2 l) l e).1, []), (tkF 0 (fixF 2 l) l e).2) := rfl
    rw [eF]
    generalize tkF 0 (fixF 2 l) l e = r at *
    obtain ⟨v, l', e'⟩ := r
    obtain ⟨b1, b2⟩ := hb
    simp only [show ((1 : Nat) : Int) = 1 from rfl] at b1 b2 H ⊢
    clear eF hW
    go_enter Try.func17, Try.ntmps17
    go_wp2_with ((with_reducible refine H.out.mono ?_); rintro x W1 ⟨rfl, hD⟩)
    go_ret2
    exact ⟨rfl, hD⟩
  · have H := Lib.hid (rword_any g l e w hW)
    have eF : getF 2 most l e = (((tkF 0 (fixF 8 l) l e).1, []), (tkF 0 (fixF 8 l) l e).2) := rfl
    rw [eF]
    simp only [show ((2 : Nat) : Int) = 2 from rfl] at H ⊢
    clear eF hW
    go_enter Try.func17, Try.ntmps17
    go_wp2_with ((with_reducible refine H.out.mono ?_); rintro x W1 ⟨rfl, hD⟩)
    go_ret2
    exact ⟨rfl, hD⟩
  · have H := Lib.hid (rnumber_any g most l e w hW)
    have eF : getF 3 most l e = (((tkF 0 (numF most l) l e).1, []), (tkF 0 (numF most l) l e).2) := rfl
    rw [eF]
    simp only [show ((3 : Nat) : Int) = 3 from rfl] at H ⊢
    clear eF hW
    go_enter Try.func17, Try.ntmps17
    go_wp2_with ((with_reducible refine H.out.mono ?_); rintro x W1 ⟨rfl, hD⟩)
    go_ret2
    exact ⟨rfl, hD⟩
  · have H := Lib.hid (rtext_any g ((most % 1000000 : Nat) : Int) l e w (by omega) (by omega) hW)
    have eF : getF 4 most l e = ((0, (tkF [] (txtF (most % 1000000 : Nat) l) l e).1), (tkF [] (txtF (most % 1000000 : Nat) l) l e).2) := rfl
    rw [eF]
    rw [show ((most % 1000000 : Nat) : Int) = (most : Int) % 1000000 from by omega] at H ⊢
    simp only [show ((4 : Nat) : Int) = 4 from rfl] at H ⊢
    clear eF hW
    go_enter Try.func17, Try.ntmps17
    go_wp2_with ((with_reducible refine H.out.mono ?_); rintro x W1 ⟨rfl, hD⟩)
    go_ret2
    exact ⟨rfl, hD⟩

/-- A field's number as it is got. -/
def numOf (f : Fld) : Nat := if f.1 = 0 then f.2.1 % 256 else if f.1 = 1 then f.2.1 % 65536 else if f.1 = 4 then 0 else f.2.1
def mostOf (f : Fld) : Nat := if f.1 = 4 then f.2.2.size else f.2.1
def textOf (f : Fld) : List Int := if f.1 = 4 then strL f.2.2 else []
theorem fix_beB (m s : Nat) (rest : List Int) (h : m < 256 ^ s) : tkF 0 (fixF s (beB m s ++ rest)) (beB m s ++ rest) 0 = ((m : Int), rest, 0) := by
  have hl := beB_len m s
  have h1 : ¬ (beB m s ++ rest).length < s := by rw [List.length_append]; omega
  unfold tkF fixF
  rw [if_pos rfl, if_neg h1, List.take_append_of_le_length (by omega), List.take_of_length_le (by omega)]
  have hb := beF_beB m s 0
  rw [Nat.zero_mul, Nat.zero_add, Nat.mod_eq_of_lt h] at hb
  rw [show beF 0 (beB m s) = (m : Int) from hb, Int.toNat_natCast, List.drop_append_of_le_length (by omega), List.drop_of_length_le (by omega), List.nil_append]
theorem get_back (f : Fld) (h : good f) (rest : List Int) : getF f.1 (mostOf f) (fb f ++ rest) 0 = (((numOf f : Int), textOf f), rest, 0) := by
  obtain ⟨k, n, s⟩ := f
  obtain ⟨hk, hn, hs⟩ := h
  simp only at hk hn hs
  have hk5 : k = 0 ∨ k = 1 ∨ k = 2 ∨ k = 3 ∨ k = 4 := by omega
  rcases hk5 with rfl | rfl | rfl | rfl | rfl
  · have e1 : fb (0, n, s) = beB (n % 256) 1 := by simp [fb, beB]
    have := fix_beB (n % 256) 1 rest (by omega)
    simp only [getF, if_pos, e1, this, numOf, textOf]
    rfl
  · have e1 : fb (1, n, s) = beB (n % 65536) 2 := rfl
    have := fix_beB (n % 65536) 2 rest (by omega)
    show (((tkF 0 (fixF 2 (fb (1, n, s) ++ rest)) (fb (1, n, s) ++ rest) 0).1, ([] : List Int)), (tkF 0 (fixF 2 (fb (1, n, s) ++ rest)) (fb (1, n, s) ++ rest) 0).2) = _
    rw [e1, this]
    rfl
  · have e1 : fb (2, n, s) = beB n 8 := rfl
    have := fix_beB n 8 rest (Nat.lt_of_lt_of_le hn (by decide))
    show (((tkF 0 (fixF 8 (fb (2, n, s) ++ rest)) (fb (2, n, s) ++ rest) 0).1, ([] : List Int)), (tkF 0 (fixF 8 (fb (2, n, s) ++ rest)) (fb (2, n, s) ++ rest) 0).2) = _
    rw [e1, this]
    rfl
  · have e1 : fb (3, n, s) = smaL n := rfl
    have hr := readS_smaL n hn rest
    show (((tkF 0 (numF n (fb (3, n, s) ++ rest)) (fb (3, n, s) ++ rest) 0).1, ([] : List Int)), (tkF 0 (numF n (fb (3, n, s) ++ rest)) (fb (3, n, s) ++ rest) 0).2) = _
    rw [e1]
    have hF : numF n (smaL n ++ rest) = ((n : Int), ((smaL n).length : Int), 0) := by
      unfold numF
      rw [hr, if_pos rfl, if_neg (Int.lt_irrefl _)]
    rw [hF]
    unfold tkF
    rw [if_pos rfl]
    simp only [Int.toNat_natCast, List.drop_left]
    rfl
  · have e1 : fb (4, n, s) = smaL s.size ++ strL s := rfl
    have hr := readS_smaL s.size (by omega) (strL s ++ rest)
    have hsl := strL_len s
    show ((0, (tkF [] (txtF (s.size % 1000000 : Nat) (fb (4, n, s) ++ rest)) (fb (4, n, s) ++ rest) 0).1), (tkF [] (txtF (s.size % 1000000 : Nat) (fb (4, n, s) ++ rest)) (fb (4, n, s) ++ rest) 0).2) = _
    rw [e1, List.append_assoc, Nat.mod_eq_of_lt (by omega)]
    have hF : txtF s.size (smaL s.size ++ (strL s ++ rest)) = (strL s, ((smaL s.size).length : Int) + (s.size : Int), 0) := by
      unfold txtF
      rw [hr, if_pos rfl, if_neg (by split <;> omega), if_neg (by simp only [List.length_append]; omega)]
      simp only [Int.toNat_natCast, List.drop_left]
      rw [List.take_append_of_le_length (by omega), List.take_of_length_le (by omega)]
    rw [hF]
    unfold tkF
    rw [if_pos rfl]
    simp only
    rw [show (((smaL s.size).length : Int) + (s.size : Int)).toNat = (smaL s.size).length + s.size from by omega, ← List.drop_drop, List.drop_left, List.drop_append_of_le_length (by omega), List.drop_of_length_le (by omega), List.nil_append]
    rfl
end Go.Proofs.Ytapeejndekoicaa.ww
