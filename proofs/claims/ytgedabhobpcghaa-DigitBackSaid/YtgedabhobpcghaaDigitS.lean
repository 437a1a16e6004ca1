/-
  Layer 2: what the law DigitOrder asks of two numbers, and of two rows of them.
-/
import Derived.Test.YtgedabhobpcghaaDigitPlainG
import Derived.Test.YtgedabhobpcghaaDigitP
namespace Go.Proofs.Ytgedabhobpcghaa.dw
open Go.RowKit Go.Proofs.Ytgedabhobpcghaa.ba Go.Proofs.Ytgedabhobpcghaa.dp Go.Proofs.Ytgedabhobpcghaa.bp
set_option linter.unusedVariables false

theorem bdrw {B : Nat} {w w' : World} (h : Below B w w') : Below B w w'.drew := ⟨h.os, h.tape, h.output, h.size, h.block⟩
theorem ordR_one (n : Nat) : ordR [(n : Int)] = ordL n := by simp [ordR]
/-- One number's ordered bytes. -/
theorem ord_one (n : Nat) (hn : n < 18446744073709551616) (w : World) : Calls Try.prog 13 #[.slice (some ⟨w.heap.size, 0, none⟩) 1 1] (w.alloc (.cells #[.int .u64 n] 23)) fun x w' => ∃ a c, x = .returned (.slice a (ordL n).length c) ∧ (ordL n).length ≤ c ∧ c ≤ maxLen ∧ Lst .u8 w' a (ordL n) ∧ Below w.heap.size w w' := by
  have h := ordered_any (some ⟨w.heap.size, 0, none⟩) 1 [(n : Int)] (w.alloc (.cells #[.int .u64 n] 23)) (by simp) (by intro v hv; simp at hv; omega) (lst_new .u64 w [(n : Int)] 23)
  rw [ordR_one] at h
  refine h.mono fun x w' ⟨a, c, h1, h2, h3⟩ => ?_
  obtain ⟨a', c', e, g1, g2⟩ := own_form h2
  cases e
  exact ⟨a, c, h1, g1, g2, Lst.own h2, ((Below.refl _ w).alloc (Nat.le_refl _) _).trans (h3.mono (by simp))⟩

theorem order_pre (A B : Nat) (hA : A < 18446744073709551616) (hB : B < 18446744073709551616) : ∃ (C : Int) (sx sy : Nat) (X Y : World → Option Addr → Prop),
    Hid ((A < B ∧ C = -1) ∨ (A = B ∧ C = 0 ∧ sx = sy) ∨ (B < A ∧ C = 1)) ∧
    Hid (∀ w, Calls Try.prog 13 #[.slice (some ⟨w.heap.size, 0, none⟩) 1 1] (w.alloc (.cells #[.int .u64 A] 23)) fun x w' => ∃ a c, x = .returned (.slice a sx c) ∧ X w' a ∧ Below w.heap.size w w') ∧
    Hid (∀ w, Calls Try.prog 13 #[.slice (some ⟨w.heap.size, 0, none⟩) 1 1] (w.alloc (.cells #[.int .u64 B] 23)) fun x w' => ∃ a c, x = .returned (.slice a sy c) ∧ sy ≤ c ∧ c ≤ maxLen ∧ Y w' a ∧ Below w.heap.size w w') ∧
    Hid (∀ w2 w3 a1, X w2 a1 → Below w2.heap.size w2 w3 → X w3 a1) ∧ Hid (∀ w2 w3 a1, Y w2 a1 → Below w2.heap.size w2 w3 → Y w3 a1) ∧
    Hid (∀ w2 a1 c1 a2 c2, X w2 a1 → Y w2 a2 → Calls Try.prog 16 #[.slice a1 sx c1, .slice a2 sy c2] w2 fun x w' => x = .returned (.int .i64 C) ∧ Below w2.heap.size w2 w') ∧
    Hid (sx < sy → ∀ w2 a1 c1 a2 c2, X w2 a1 → Y w2 a2 → Calls Try.prog 15 #[.slice a1 sx c1, .slice a2 sx c2] w2 fun x w' => x = .returned (.bool false) ∧ Below w2.heap.size w2 w') := by
  have lA : (ordL A).length ≤ 9 := by rw [ordL, List.length_cons, beB_len]; have := sizeO_le A hA; omega
  have lB : (ordL B).length ≤ 9 := by rw [ordL, List.length_cons, beB_len]; have := sizeO_le B hB; omega
  refine ⟨if A < B then -1 else if B < A then 1 else 0, (ordL A).length, (ordL B).length, fun w a => Lst .u8 w a (ordL A), fun w a => Lst .u8 w a (ordL B), ?_, ?_, ?_, ?_, ?_, ?_, ?_⟩
  · show _ ∨ _
    rcases Nat.lt_trichotomy A B with h | h | h
    · exact .inl ⟨h, if_pos h⟩
    · subst h; exact .inr (.inl ⟨rfl, by simp, rfl⟩)
    · exact .inr (.inr ⟨h, by rw [if_neg (by omega), if_pos h]⟩)
  · exact Lib.hid fun w => (ord_one A hA w).mono fun x w' ⟨a, c, h1, h2, h3, h4, h5⟩ => ⟨a, c, h1, h4, h5⟩
  · exact Lib.hid fun w => (ord_one B hB w).mono fun x w' ⟨a, c, h1, h2, h3, h4, h5⟩ => ⟨a, c, h1, h2, h3, h4, h5⟩
  · exact Lib.hid fun w2 w3 a1 h hb => h.below hb
  · exact Lib.hid fun w2 w3 a1 h hb => h.below hb
  · refine Lib.hid fun w2 a1 c1 a2 c2 h1 h2 => ?_
    have h := compare_any a1 a2 c1 c2 _ _ w2 (by omega) (by omega) h1 h2
    have e := cmpL_ordL A B hA hB [] []
    rw [List.append_nil, List.append_nil] at e
    rw [e] at h
    exact h
  · refine Lib.hid fun hlt w2 a1 c1 a2 c2 h1 h2 => ?_
    have hl : ((ordL B).take (ordL A).length).length = (ordL A).length := by rw [List.length_take]; omega
    have h := same_any a1 a2 c1 c2 _ _ w2 (by omega) (by omega) h1 (h2.take (ordL A).length)
    rw [hl, decide_eq_false (fun e => by have := ordL_prefix A B e; omega)] at h
    exact h

theorem ordR_F (l : List Int) : ordR l = ordF l := rfl
theorem order_rows (a b : Option Addr) (ca cb : Nat) (l m : List Int) (n : Nat) (hl : l.length = n) (hm : m.length = n) (hn : n ≤ 10) (w : World) (hW : Words l) (hW2 : Words m) (hX : Lst .u64 w a l) (hY : Lst .u64 w b m) : ∃ (s t : Nat) (X Y : World → Option Addr → Prop),
    Hid (∀ w2, Below w.heap.size w w2 → Calls Try.prog 13 #[.slice a n ca] w2 fun x w' => ∃ a' c, x = .returned (.slice a' s c) ∧ X w' a' ∧ Below w.heap.size w w' ∧ Below w2.heap.size w2 w') ∧
    Hid (∀ w2, Below w.heap.size w w2 → Calls Try.prog 13 #[.slice b n cb] w2 fun x w' => ∃ a' c, x = .returned (.slice a' t c) ∧ Y w' a' ∧ Below w.heap.size w w' ∧ Below w2.heap.size w2 w') ∧
    Hid (∀ w2 w3 a1, X w2 a1 → Below w2.heap.size w2 w3 → X w3 a1) ∧ Hid (∀ w2 w3 a1, Y w2 a1 → Below w2.heap.size w2 w3 → Y w3 a1) ∧
    Hid (∀ w2, Below w.heap.size w w2 → ∀ a1 c1 a2 c2, X w2 a1 → Y w2 a2 → Calls Try.prog 16 #[.slice a1 s c1, .slice a2 t c2] w2 fun x w' => x = .returned (.int .i64 (firstU l m)) ∧ Below w.heap.size w w') := by
  subst hl
  have b1 := ordR_len l hW
  have b2 := ordR_len m hW2
  refine ⟨(ordR l).length, (ordR m).length, fun w2 a' => Lst .u8 w2 a' (ordR l), fun w2 a' => Lst .u8 w2 a' (ordR m), ?_, ?_, ?_, ?_, ?_⟩
  · exact Lib.hid fun w2 hb => (ordered_any a ca l w2 (by omega) hW (hX.below hb)).mono fun x w' ⟨a', c, h1, h2, h3⟩ => ⟨a', c, h1, Lst.own h2, bthen hb h3, h3⟩
  · refine Lib.hid fun w2 hb => ?_
    have h := ordered_any b cb m w2 (by omega) hW2 (hY.below hb)
    rw [hm] at h
    exact h.mono fun x w' ⟨a', c, h1, h2, h3⟩ => ⟨a', c, h1, Lst.own h2, bthen hb h3, h3⟩
  · exact Lib.hid fun w2 w3 a1 h hb => h.below hb
  · exact Lib.hid fun w2 w3 a1 h hb => h.below hb
  · refine Lib.hid fun w2 hb a1 c1 a2 c2 h1 h2 => ?_
    have h := compare_any a1 a2 c1 c2 (ordR l) (ordR m) w2 (by omega) (by omega) h1 h2
    rw [ordR_F, ordR_F, cmpL_ordF l m hm.symm hW hW2] at h
    exact h.mono fun x w' ⟨h1, h2⟩ => ⟨h1, bthen hb h2⟩
theorem firstU_bounds : ∀ (l m : List Int), firstU l m = -1 ∨ firstU l m = 0 ∨ firstU l m = 1
  | [], _ => .inr (.inl rfl)
  | _ :: _, [] => .inr (.inl rfl)
  | x :: xs, y :: ys => by
    rw [firstU]
    split
    · exact .inl rfl
    · split
      · exact .inr (.inr rfl)
      · exact firstU_bounds xs ys
end Go.Proofs.Ytgedabhobpcghaa.dw
