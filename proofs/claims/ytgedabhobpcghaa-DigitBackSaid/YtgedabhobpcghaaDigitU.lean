/-
  Layer 2: what the law DigitBack asks.
-/
import Derived.Test.YtgedabhobpcghaaDigitPlainF
import Derived.Test.YtgedabhobpcghaaDigitS
import Derived.Test.YtgedabhobpcghaaCut
namespace Go.Proofs.Ytgedabhobpcghaa.dw
open Go.RowKit Go.Proofs.Ytgedabhobpcghaa.ba Go.Proofs.Ytgedabhobpcghaa.dp Go.Proofs.Ytgedabhobpcghaa.bp
set_option linter.unusedVariables false

theorem bytes_beB (n : Nat) : ∀ k, Bytes (beB n k) := by
  intro k
  induction k with
  | zero => intro v hv; simp [beB] at hv
  | succ k ih =>
    intro v hv
    rw [beB] at hv
    rcases List.mem_cons.1 hv with rfl | h
    · omega
    · exact ih v h
theorem bytes_ordL (n : Nat) (h : n < 18446744073709551616) : Bytes (ordL n) := by
  intro v hv
  rw [ordL] at hv
  rcases List.mem_cons.1 hv with rfl | h2
  · have := sizeO_le n h; omega
  · exact bytes_beB n _ v h2
theorem bytes_smaK : ∀ f n, Bytes (smaK f n) := by
  intro f
  induction f with
  | zero => intro n v hv; simp [smaK] at hv
  | succ f ih =>
    intro n v hv
    rw [smaK] at hv
    split at hv
    · simp at hv; omega
    · rcases List.mem_cons.1 hv with rfl | h
      · omega
      · exact ih _ v h
theorem bytes_ordR (l : List Int) (hW : Words l) : Bytes (ordR l) := by
  intro v hv
  simp only [ordR, List.mem_flatMap] at hv
  obtain ⟨x, hx, hv⟩ := hv
  have := hW x hx
  exact bytes_ordL _ (by omega) v hv
theorem bytes_smaR (l : List Int) : Bytes (smaR l) := by
  intro v hv
  simp only [smaR, List.mem_flatMap] at hv
  obtain ⟨x, hx, hv⟩ := hv
  exact bytes_smaK _ _ v hv

theorem info5' : ∃ i, Try.prog.info? 5 = some i ∧ i.size = 1 := by
  obtain ⟨i0, hi, hz0, hz1, hz2⟩ := info_parts info5
  exact ⟨i0, hi, hz1⟩

/-- The first number of a row is read, and cut off. -/
theorem back_head (v : Nat) (hv : v < 18446744073709551616) (R R2 : List Int) (w : World) (a b : Option Addr) (n ca m cb : Nat) (hn : n = (ordL v ++ R).length) (hm : m = (smaL v ++ R2).length) (hna : n ≤ ca) (hca : ca ≤ maxLen) (hmb : m ≤ cb) (hcb : cb ≤ maxLen)
    (hB : Bytes R) (hB2 : Bytes R2) (hX : Lst .u8 w a (ordL v ++ R)) (hY : Lst .u8 w b (smaL v ++ R2)) : ∃ (k j : Nat) (a' b' : Option Addr) (n' ca' m' cb' : Nat),
    1 ≤ k ∧ k ≤ n ∧ 1 ≤ j ∧ j ≤ m ∧
    Hid (∀ w2, Below w.heap.size w w2 → Calls Try.prog 8 #[.slice a n ca] w2 fun x w' => x = .returned (.tuple #[.int .u64 (v : Int), .int .i64 (k : Int), .int .i64 0]) ∧ Below w2.heap.size w2 w') ∧
    Hid (∀ w2, Below w.heap.size w w2 → Calls Try.prog 10 #[.slice b m cb] w2 fun x w' => x = .returned (.tuple #[.int .u64 (v : Int), .int .i64 (j : Int), .int .i64 0]) ∧ Below w2.heap.size w2 w') ∧
    (∀ w, (Instr.slice 22 (.slice a n ca) (some (.int .i64 (k : Int))) none none).run Try.prog w = .ok (.slice a' n' ca') w) ∧
    (∀ w, (Instr.slice 22 (.slice b m cb) (some (.int .i64 (j : Int))) none none).run Try.prog w = .ok (.slice b' m' cb') w) ∧
    Hid (n' = R.length) ∧ Hid (m' = R2.length) ∧ n' ≤ ca' ∧ ca' ≤ maxLen ∧ m' ≤ cb' ∧ cb' ≤ maxLen ∧ Lst .u8 w a' R ∧ Lst .u8 w b' R2 := by
  obtain ⟨i0, hi, hi1⟩ := info5'
  have l1 : (ordL v).length = 1 + sizeO v := by rw [ordL, List.length_cons, beB_len]; omega
  have l2 := smaK_pos 10 v (by decide)
  rw [List.length_append] at hn hm
  obtain ⟨a', n', ca', e1, f1, g1, g2, g3, _⟩ := run_cut_from (P := Try.prog) 22 5 Try.underlying22 i0 hi hi1 a n ca (ordL v).length (by omega) hna
  obtain ⟨b', m', cb', e2, f2, g4, g5, g6, _⟩ := run_cut_from (P := Try.prog) 22 5 Try.underlying22 i0 hi hi1 b m cb (smaL v).length (by omega) hmb
  have r1 := g3 .u8 w _ (by rw [List.length_append]; exact hn.symm) hX
  have r2 := g6 .u8 w _ (by rw [List.length_append]; exact hm.symm) hY
  rw [List.drop_left] at r1 r2
  unfold maxLen at hca hcb
  have hl2 : 1 ≤ (smaL v).length := l2
  refine ⟨(ordL v).length, (smaL v).length, a', b', n', ca', m', cb', by omega, by omega, by omega, by omega, Lib.hid fun w2 hb => ?_, Lib.hid fun w2 hb => ?_, e1, e2, by show _ = _; omega, by show _ = _; omega, g1, by unfold maxLen; omega, g4, by unfold maxLen; omega, r1, r2⟩
  · have h := readO_any a ca (ordL v ++ R) w2 (by rw [List.length_append]; omega) (by omega) (fun x hx => (List.mem_append.1 hx).elim (bytes_ordL v hv x) (hB x)) (hX.below hb)
    rw [readO_ordL v hv, List.length_append, ← hn] at h
    rw [l1]
    exact h
  · have h := readS_any b cb (smaL v ++ R2) w2 (by rw [List.length_append]; omega) (by omega) (fun x hx => (List.mem_append.1 hx).elim (bytes_smaK 10 v x) (hB2 x)) (hY.below hb)
    rw [readS_smaL v hv, List.length_append, ← hm] at h
    exact h

theorem smaR_one (n : Nat) : smaR [(n : Int)] = smaL n := by simp [smaR]
theorem sma_one (n : Nat) (hn : n < 18446744073709551616) (w : World) : Calls Try.prog 14 #[.slice (some ⟨w.heap.size, 0, none⟩) 1 1] (w.alloc (.cells #[.int .u64 n] 23)) fun x w' => ∃ a c, x = .returned (.slice a (smaL n).length c) ∧ Lst .u8 w' a (smaL n) ∧ Below w.heap.size w w' := by
  have h := small_any (some ⟨w.heap.size, 0, none⟩) 1 [(n : Int)] (w.alloc (.cells #[.int .u64 n] 23)) (by simp) (by intro v hv; simp at hv; omega) (lst_new .u64 w [(n : Int)] 23)
  rw [smaR_one] at h
  refine h.mono fun x w' ⟨a, c, h1, h2, h3⟩ => ?_
  exact ⟨a, c, h1, Lst.own h2, ((Below.refl _ w).alloc (Nat.le_refl _) _).trans (h3.mono (by simp))⟩

/-- What is read of any bytes is wrong, or it is written just so. -/
def BackO (w : World) (a : Option Addr) (n cap : Nat) : Prop :=
  ∃ (N k E : Int), Hid (∀ w2, Below w.heap.size w w2 → Calls Try.prog 8 #[.slice a n cap] w2 fun x w' => x = .returned (.tuple #[.int .u64 N, .int .i64 k, .int .i64 E]) ∧ Below w2.heap.size w2 w') ∧
    ((E == 0) = false ∨ E = 0 ∧ 1 ≤ k ∧ k ≤ (n : Int) ∧ ∃ X : World → Option Addr → Prop,
      Hid (∀ w2, Below w.heap.size w w2 → Calls Try.prog 13 #[.slice (some ⟨w2.heap.size, 0, none⟩) 1 1] (w2.alloc (.cells #[.int .u64 N] 23)) fun x w' => ∃ a' c, x = .returned (.slice a' k.toNat c) ∧ X w' a' ∧ Below w.heap.size w w') ∧
      Hid (∀ w2 a1 c1, Below w.heap.size w w2 → X w2 a1 → Calls Try.prog 15 #[.slice a1 k.toNat c1, .slice a k.toNat cap] w2 fun x w' => x = .returned (.bool true) ∧ Below w.heap.size w w'))
def BackS (w : World) (a : Option Addr) (n cap : Nat) : Prop :=
  ∃ (N k E : Int), Hid (∀ w2, Below w.heap.size w w2 → Calls Try.prog 10 #[.slice a n cap] w2 fun x w' => x = .returned (.tuple #[.int .u64 N, .int .i64 k, .int .i64 E]) ∧ Below w2.heap.size w2 w') ∧
    ((E == 0) = false ∨ E = 0 ∧ 1 ≤ k ∧ k ≤ (n : Int) ∧ ∃ X : World → Option Addr → Prop,
      Hid (∀ w2, Below w.heap.size w w2 → Calls Try.prog 14 #[.slice (some ⟨w2.heap.size, 0, none⟩) 1 1] (w2.alloc (.cells #[.int .u64 N] 23)) fun x w' => ∃ a' c, x = .returned (.slice a' k.toNat c) ∧ X w' a' ∧ Below w.heap.size w w') ∧
      Hid (∀ w2 a1 c1, Below w.heap.size w w2 → X w2 a1 → Calls Try.prog 15 #[.slice a1 k.toNat c1, .slice a k.toNat cap] w2 fun x w' => x = .returned (.bool true) ∧ Below w.heap.size w w'))
theorem backO (w : World) (a : Option Addr) (l : List Int) (n cap : Nat) (hn : l.length = n) (hc : n ≤ cap) (hm : cap ≤ 9223372036854775807) (hB : Bytes l) (hX : Lst .u8 w a l) : BackO w a n cap := by
  subst hn
  refine ⟨(readO l).1, (readO l).2.1, (readO l).2.2, Lib.hid fun w2 hb => readO_any a cap l w2 hc hm hB (hX.below hb), ?_⟩
  by_cases h : (readO l).2.2 = 0
  · right
    obtain ⟨N, h1, h2, h3, h4, h5⟩ := readO_back l hB (readO l).1 (readO l).2.1 (by rw [← h])
    have hl : (ordL N).length = (readO l).2.1.toNat := by rw [h5, List.length_take]; omega
    refine ⟨h, h3, h4, fun w2 a' => Lst .u8 w2 a' (ordL N), Lib.hid fun w2 hb => ?_, Lib.hid fun w2 a1 c1 hb hx => ?_⟩
    · rw [h1]
      exact (ord_one N h2 w2).mono fun x w' ⟨a', c, g1, _, _, g2, g3⟩ => ⟨a', c, by rw [← hl]; exact g1, g2, bthen hb g3⟩
    · have hh := same_any a1 a c1 cap (ordL N) (l.take (readO l).2.1.toNat) w2 (by omega) (by rw [List.length_take]; omega) hx ((hX.below hb).take _)
      rw [← h5, hl, decide_eq_true rfl] at hh
      exact hh.mono fun x w' ⟨g1, g2⟩ => ⟨g1, bthen hb g2⟩
  · left
    simpa using h
theorem backS (w : World) (a : Option Addr) (l : List Int) (n cap : Nat) (hn : l.length = n) (hc : n ≤ cap) (hm : cap ≤ 9223372036854775807) (hB : Bytes l) (hX : Lst .u8 w a l) : BackS w a n cap := by
  subst hn
  refine ⟨(readS l).1, (readS l).2.1, (readS l).2.2, Lib.hid fun w2 hb => readS_any a cap l w2 hc hm hB (hX.below hb), ?_⟩
  by_cases h : (readS l).2.2 = 0
  · right
    obtain ⟨N, h1, h2, h3, h4, h5⟩ := readS_back l hB (readS l).1 (readS l).2.1 (by rw [← h])
    have hl : (smaL N).length = (readS l).2.1.toNat := by rw [h5, List.length_take]; omega
    refine ⟨h, h3, h4, fun w2 a' => Lst .u8 w2 a' (smaL N), Lib.hid fun w2 hb => ?_, Lib.hid fun w2 a1 c1 hb hx => ?_⟩
    · rw [h1]
      exact (sma_one N h2 w2).mono fun x w' ⟨a', c, g1, g2, g3⟩ => ⟨a', c, by rw [← hl]; exact g1, g2, bthen hb g3⟩
    · have hh := same_any a1 a c1 cap (smaL N) (l.take (readS l).2.1.toNat) w2 (by omega) (by rw [List.length_take]; omega) hx ((hX.below hb).take _)
      rw [← h5, hl, decide_eq_true rfl] at hh
      exact hh.mono fun x w' ⟨g1, g2⟩ => ⟨g1, bthen hb g2⟩
  · left
    simpa using h
end Go.Proofs.Ytgedabhobpcghaa.dw
