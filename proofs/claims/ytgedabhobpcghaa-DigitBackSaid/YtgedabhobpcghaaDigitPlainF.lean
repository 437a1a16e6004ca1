/-
  Layer 2, plain: what is written is read, and what is read is written. No program is imported.
-/
import Derived.Test.YtgedabhobpcghaaDigitPlainB
import Derived.Test.YtgedabhobpcghaaDigitPlainC
import Derived.Test.YtgedabhobpcghaaDigitPlainE
namespace Go.Proofs.Ytgedabhobpcghaa.dp

theorem beB_snoc (n : Nat) : ∀ k, beB n (k + 1) = beB (n / 256) k ++ [((n % 256 : Nat) : Int)] := by
  intro k
  induction k generalizing n with
  | zero => simp [beB]
  | succ k ih =>
    have e : n / 256 ^ (k + 1) = n / 256 / 256 ^ k := by rw [Nat.pow_succ, Nat.mul_comm, Nat.div_div_eq_div_mul]
    rw [beB, ih, beB, e]
    rfl
theorem beF_beB (n : Nat) : ∀ k (m : Nat), beF (m : Int) (beB n k) = ((m * 256 ^ k + n % 256 ^ k : Nat) : Int) := by
  intro k
  induction k with
  | zero => intro m; simp [beB, beF, Nat.mod_one]
  | succ k ih =>
    intro m
    rw [beB, beF, show (m : Int) * 256 + ((n / 256 ^ k % 256 : Nat) : Int) = ((m * 256 + n / 256 ^ k % 256 : Nat) : Int) from by omega, ih]
    rw [Nat.pow_succ, Nat.mod_mul, Nat.add_mul, Nat.mul_assoc, Nat.mul_comm 256 (256 ^ k), Nat.mul_comm (n / 256 ^ k % 256), Nat.add_assoc, Nat.add_comm (256 ^ k * _)]
theorem sizeO_spec (n : Nat) (h : n < 18446744073709551616) : n < 256 ^ sizeO n ∧ (sizeO n = 0 ∨ 256 ^ (sizeO n - 1) ≤ n) ∧ sizeO n ≤ 8 :=
  sizeK_spec 8 n (Nat.lt_of_lt_of_le h (by decide))
theorem sizeO_eq (n s : Nat) (h : n < 18446744073709551616) (h1 : n < 256 ^ s) (h2 : s = 0 ∨ 256 ^ (s - 1) ≤ n) : sizeO n = s := by
  obtain ⟨k1, k2, k3⟩ := sizeO_spec n h
  rcases Nat.lt_trichotomy (sizeO n) s with hl | he | hg
  · exfalso
    have : 256 ^ sizeO n ≤ 256 ^ (s - 1) := Nat.pow_le_pow_right (by decide) (by omega)
    omega
  · exact he
  · exfalso
    have : 256 ^ s ≤ 256 ^ (sizeO n - 1) := Nat.pow_le_pow_right (by decide) (by omega)
    omega
/-- The highest byte isn't 0. -/
theorem head_pos (n s : Nat) (h1 : n < 256 ^ (s + 1)) (h2 : 256 ^ s ≤ n) : 0 < n / 256 ^ s % 256 := by
  have hp : 0 < 256 ^ s := Nat.pow_pos (by decide)
  have a : 0 < n / 256 ^ s := Nat.div_pos h2 hp
  have b : n / 256 ^ s < 256 := by rw [Nat.div_lt_iff_lt_mul hp, Nat.mul_comm, ← Nat.pow_succ]; exact h1
  rw [Nat.mod_eq_of_lt b]
  exact a
theorem readO_ordL (n : Nat) (h : n < 18446744073709551616) (t : List Int) : readO (ordL n ++ t) = ((n : Int), 1 + (sizeO n : Int), 0) := by
  obtain ⟨k1, k2, k3⟩ := sizeO_spec n h
  obtain ⟨s, hs⟩ : ∃ s, s = sizeO n := ⟨_, rfl⟩
  unfold ordL
  rw [← hs] at k1 k2 k3 ⊢
  have hl := beB_len n s
  rw [List.cons_append, readO, if_neg (by omega), if_neg (by rw [List.length_append, hl]; omega), if_neg, Int.toNat_natCast, List.take_append_of_le_length (by omega), List.take_of_length_le (by omega)]
  · have := beF_beB n s 0
    rw [Nat.zero_mul, Nat.zero_add, Nat.mod_eq_of_lt k1] at this
    rw [show (0 : Int) = ((0 : Nat) : Int) from rfl, this]
  · rintro ⟨h0, h1⟩
    cases s with
    | zero => omega
    | succ s =>
      have k2 : 256 ^ s ≤ n := by rcases k2 with k2 | k2 <;> first | omega | exact k2
      have h2 := head_pos n s k1 k2
      rw [beB] at h1
      have h3 : ((n / 256 ^ s % 256 : Nat) : Int) = 0 := Option.some.inj h1
      generalize n / 256 ^ s % 256 = z at h2 h3
      omega

def BytesP (l : List Int) : Prop := ∀ v ∈ l, 0 ≤ v ∧ v ≤ 255
theorem beB_beF : ∀ (k : Nat) (u : List Int), u.length = k → BytesP u → ∃ N : Nat, beF 0 u = (N : Int) ∧ N < 256 ^ k ∧ beB N k = u := by
  intro k
  induction k with
  | zero =>
    intro u hu _
    have : u = [] := List.eq_nil_of_length_eq_zero hu
    subst this
    exact ⟨0, rfl, by decide, rfl⟩
  | succ k ih =>
    intro u hu hB
    have hne : u ≠ [] := by intro h; subst h; simp at hu
    have hd := List.dropLast_concat_getLast hne
    obtain ⟨N, h1, h2, h3⟩ := ih u.dropLast (by simp [hu]) (fun v hv => hB v (List.dropLast_subset _ hv))
    have hx := hB _ (List.getLast_mem hne)
    obtain ⟨X, hX⟩ := Int.eq_ofNat_of_zero_le hx.1
    rw [hX] at hd hx
    refine ⟨N * 256 + X, ?_, ?_, ?_⟩
    · rw [← hd, beF_snoc, h1]; omega
    · rw [Nat.pow_succ]; omega
    · rw [beB_snoc, show (N * 256 + X) / 256 = N from by omega, show (N * 256 + X) % 256 = X from by omega, h3]
      exact hd
theorem readO_back (b : List Int) (hB : BytesP b) (n k : Int) (h : readO b = (n, k, 0)) : ∃ N : Nat, n = (N : Int) ∧ N < 18446744073709551616 ∧ 1 ≤ k ∧ k ≤ (b.length : Int) ∧ ordL N = b.take k.toNat := by
  cases b with
  | nil => simp [readO] at h
  | cons c t =>
    have hc := hB c (by simp)
    obtain ⟨s, rfl⟩ := Int.eq_ofNat_of_zero_le hc.1
    rw [readO] at h
    split at h
    · simp at h
    · split at h
      · simp at h
      · split at h
        · simp at h
        · rename_i g1 g2 g3
          rw [Int.toNat_natCast] at h
          simp only [Prod.mk.injEq, and_true] at h
          obtain ⟨rfl, rfl⟩ := h
          have hlen : (t.take s).length = s := by rw [List.length_take]; omega
          obtain ⟨N, h1, h2, h3⟩ := beB_beF s (t.take s) hlen (fun v hv => hB v (List.mem_cons_of_mem _ (List.mem_of_mem_take hv)))
          have h8 : (256 : Nat) ^ s ≤ 256 ^ 8 := Nat.pow_le_pow_right (by decide) (by omega)
          have hN : N < 18446744073709551616 := Nat.lt_of_lt_of_le h2 (Nat.le_trans h8 (by decide))
          have hsz : sizeO N = s := by
            refine sizeO_eq N s hN h2 ?_
            cases s with
            | zero => exact .inl rfl
            | succ s =>
              right
              rw [Nat.add_sub_cancel]
              rcases Nat.lt_or_ge N (256 ^ s) with hlt | hge
              · exfalso
                apply g3
                refine ⟨by omega, ?_⟩
                have e : t.head? = (t.take (s + 1)).head? := by cases t <;> simp
                rw [e, ← h3, beB, Nat.div_eq_of_lt hlt]
                rfl
              · exact hge
          refine ⟨N, h1, hN, by omega, by simp; omega, ?_⟩
          rw [ordL, hsz, h3, show (1 + (s : Int)).toNat = s + 1 from by omega, List.take_succ_cons]

theorem pw_cast (i : Nat) : pw i = ((128 ^ i : Nat) : Int) := by unfold pw; simp
theorem smaK_pos : ∀ f n, 0 < f → 0 < (smaK f n).length := by
  intro f n hf
  cases f with
  | zero => omega
  | succ f => rw [smaK]; split <;> simp
theorem mul_pw (m i : Nat) : ((m : Int)) * pw i = ((m * 128 ^ i : Nat) : Int) := by rw [pw_cast]; simp
theorem rsF_sma : ∀ (f m i : Nat) (acc : Int) (t : List Int), 1 ≤ f → i + f = 10 → m < 128 ^ f → m * 128 ^ i < 18446744073709551616 → (0 < i → 0 < m) →
    rsF (smaK f m ++ t) i acc = (acc + m * pw i, (i : Int) + ((smaK f m).length : Int), 0) := by
  intro f
  induction f with
  | zero => intro m i acc t h; omega
  | succ f ih =>
    intro m i acc t _ hi hm hb h0
    by_cases hlt : m < 128
    · rw [smaK, if_pos hlt, List.singleton_append, rsF, if_neg, if_pos (by omega)]
      · simp
      · rintro (⟨h9, h1⟩ | ⟨h1, h2⟩)
        · subst h9
          rw [show (128 : Nat) ^ 9 = 9223372036854775808 from by decide] at hb
          omega
        · have := h0 h1; omega
    · have hf : 1 ≤ f := by
        rcases Nat.eq_zero_or_pos f with h | h
        · subst h; simp at hm; omega
        · exact h
      have hp : 128 ^ (i + 1) = 128 ^ i * 128 := Nat.pow_succ ..
      have hd : m / 128 * 128 ^ (i + 1) ≤ m * 128 ^ i := by
        rw [hp, Nat.mul_comm (128 ^ i), ← Nat.mul_assoc]
        exact Nat.mul_le_mul_right _ (by omega)
      rw [smaK, if_neg hlt, List.cons_append, rsF, if_neg (by omega), if_neg (by omega), ih (m / 128) (i + 1) _ t hf (by omega) (by rw [Nat.pow_succ] at hm; omega) (by omega) (by omega)]
      have e : acc + (((m % 128 + 128 : Nat) : Int) - 128) * pw i + ((m / 128 : Nat) : Int) * pw (i + 1) = acc + (m : Int) * pw i := by
        rw [pw_succ, show (((m % 128 + 128 : Nat) : Int) - 128) = ((m % 128 : Nat) : Int) from by omega, mul_pw, mul_pw, Int.mul_comm (pw i) 128, ← Int.mul_assoc, show ((m / 128 : Nat) : Int) * 128 = ((m / 128 * 128 : Nat) : Int) from by omega, mul_pw]
        have : m % 128 * 128 ^ i + m / 128 * 128 * 128 ^ i = m * 128 ^ i := by rw [← Nat.add_mul]; congr 1; omega
        omega
      rw [e]
      simp
      omega
theorem readS_smaL (n : Nat) (h : n < 18446744073709551616) (t : List Int) : readS (smaL n ++ t) = ((n : Int), ((smaL n).length : Int), 0) := by
  unfold readS smaL
  rw [rsF_sma 10 n 0 0 t (by decide) rfl (Nat.lt_of_lt_of_le h (by decide)) (by omega) (by omega)]
  simp [pw]
theorem rsF_back : ∀ (b : List Int) (i : Nat) (acc n k : Int), BytesP b → i ≤ 9 → rsF b i acc = (n, k, 0) →
    ∃ m : Nat, n = acc + m * pw i ∧ m < 128 ^ (10 - i) ∧ m * 128 ^ i < 18446744073709551616 ∧ (0 < i → 0 < m) ∧ (i : Int) + 1 ≤ k ∧ k ≤ i + (b.length : Int) ∧ smaK (10 - i) m = b.take (k.toNat - i) := by
  intro b
  induction b with
  | nil => intro i acc n k _ _ h; simp [rsF] at h
  | cons x xs ih =>
    intro i acc n k hB hi h
    have hx := hB x (by simp)
    obtain ⟨X, rfl⟩ := Int.eq_ofNat_of_zero_le hx.1
    rw [rsF] at h
    split at h
    · simp at h
    · rename_i g
      have e10 : 10 - i = (9 - i) + 1 := by omega
      split at h
      · rename_i g2
        simp only [Prod.mk.injEq, and_true] at h
        obtain ⟨rfl, rfl⟩ := h
        refine ⟨X, rfl, ?_, ?_, by omega, by omega, by simp; omega, ?_⟩
        · rw [e10, Nat.pow_succ]
          have : 1 ≤ 128 ^ (9 - i) := Nat.pow_pos (by decide)
          omega
        · by_cases h9 : i = 9
          · subst h9
            rw [show (128 : Nat) ^ 9 = 9223372036854775808 from by decide]
            omega
          · have h8 : (128 : Nat) ^ i ≤ 128 ^ 8 := Nat.pow_le_pow_right (by decide) (by omega)
            rw [show (128 : Nat) ^ 8 = 72057594037927936 from by decide] at h8
            have : X * 128 ^ i ≤ 127 * 72057594037927936 := Nat.mul_le_mul (by omega) h8
            omega
        · rw [e10, smaK, if_pos (by omega), show ((i : Int) + 1).toNat - i = 1 from by omega]
          rfl
      · rename_i g2
        have h9 : i ≠ 9 := by omega
        obtain ⟨m, h1, h2, h3, h4, h5, h6, h7⟩ := ih (i + 1) _ n k (fun v hv => hB v (by simp [hv])) (by omega) h
        have hm := h4 (by omega)
        refine ⟨m * 128 + (X - 128), ?_, ?_, ?_, by omega, by omega, by simp; omega, ?_⟩
        · rw [h1, pw_succ, show ((X : Int) - 128) = ((X - 128 : Nat) : Int) from by omega, mul_pw, Int.mul_comm (pw i) 128, ← Int.mul_assoc, show (m : Int) * 128 = ((m * 128 : Nat) : Int) from by omega, mul_pw, mul_pw, Nat.add_mul]
          omega
        · rw [show 10 - i = (10 - (i + 1)) + 1 from by omega, Nat.pow_succ]; omega
        · have hp : 128 ^ (i + 1) = 128 ^ i * 128 := Nat.pow_succ ..
          have hb : m * 128 ^ (i + 1) = m * 128 * 128 ^ i := by rw [hp, Nat.mul_comm (128 ^ i), Nat.mul_assoc]
          rw [hb] at h3
          rw [Nat.add_mul]
          have h8 : (128 : Nat) ^ i ≤ 128 ^ 8 := Nat.pow_le_pow_right (by decide) (by omega)
          -- the number is below 2^64 since its part above is, and is a multiple
          have hdv : (18446744073709551616 : Nat) = 2 ^ (64 - 7 * i) * 128 ^ i := by
            rw [show (128 : Nat) ^ i = 2 ^ (7 * i) from by rw [Nat.pow_mul], ← Nat.pow_add, show 64 - 7 * i + 7 * i = 64 from by omega]
          have hq : m * 128 < 2 ^ (64 - 7 * i) := by
            rw [hdv] at h3
            exact Nat.lt_of_mul_lt_mul_right h3
          have hdiv : (2 : Nat) ^ (64 - 7 * i) = 128 * 2 ^ (57 - 7 * i) := by
            rw [show 64 - 7 * i = 7 + (57 - 7 * i) from by omega, Nat.pow_add]
          rw [hdv, ← Nat.add_mul]
          refine (Nat.mul_lt_mul_right (Nat.pow_pos (by decide))).2 ?_
          rw [hdiv] at hq ⊢
          have : m < 2 ^ (57 - 7 * i) := by omega
          omega
        · rw [e10, smaK, if_neg (by omega), show (m * 128 + (X - 128)) % 128 + 128 = X from by omega, show (m * 128 + (X - 128)) / 128 = m from by omega, show 9 - i = 10 - (i + 1) from by omega, h7, show k.toNat - i = (k.toNat - (i + 1)) + 1 from by omega, List.take_succ_cons]
theorem readS_back (b : List Int) (hB : BytesP b) (n k : Int) (h : readS b = (n, k, 0)) : ∃ N : Nat, n = (N : Int) ∧ N < 18446744073709551616 ∧ 1 ≤ k ∧ k ≤ (b.length : Int) ∧ smaL N = b.take k.toNat := by
  obtain ⟨m, h1, _, h3, _, h5, h6, h7⟩ := rsF_back b 0 0 n k hB (by decide) h
  refine ⟨m, by simpa [pw] using h1, by simpa using h3, by omega, by omega, ?_⟩
  simpa [smaL] using h7
end Go.Proofs.Ytgedabhobpcghaa.dp
