/-
  Plain facts on words, more: signed numbers as words, words that are turned, how many ones, the highest and the lowest one. No program is imported.
-/
import Derived.Test.YtgedabhobpcghaaBitsPlain
namespace Go.Proofs.Ytgedabhobpcghaa.bp

/-! ### how many, the highest, the lowest, of bits as a function -/
def cnt (f : Nat → Bool) : Nat → Nat
  | 0 => 0
  | k + 1 => cnt f k + (f k).toNat
def any (f : Nat → Bool) : Nat → Bool
  | 0 => false
  | k + 1 => any f k || f k
def top (f : Nat → Bool) : Nat → Int
  | 0 => -1
  | k + 1 => if f k = true then (k : Int) else top f k
def bot (f : Nat → Bool) : Nat → Int
  | 0 => -1
  | k + 1 => if f k = true ∧ bot f k < 0 then (k : Int) else bot f k

theorem cnt_le (f : Nat → Bool) (k : Nat) : cnt f k ≤ k := by
  induction k with
  | zero => simp [cnt]
  | succ k ih => simp only [cnt]; cases f k <;> simp <;> omega

theorem cnt_congr {f g : Nat → Bool} (k : Nat) (h : ∀ i, i < k → f i = g i) : cnt f k = cnt g k := by
  induction k with
  | zero => rfl
  | succ k ih => simp only [cnt]; rw [ih (fun i hi => h i (by omega)), h k (by omega)]

theorem top_congr {f g : Nat → Bool} (k : Nat) (h : ∀ i, i < k → f i = g i) : top f k = top g k := by
  induction k with
  | zero => rfl
  | succ k ih => simp only [top]; rw [ih (fun i hi => h i (by omega)), h k (by omega)]

theorem cnt_add (f : Nat → Bool) (a b : Nat) : cnt f (a + b) = cnt f a + cnt (fun i => f (a + i)) b := by
  induction b with
  | zero => rfl
  | succ b ih => rw [Nat.add_succ]; simp only [cnt]; rw [ih]; omega

theorem cnt_key (a b : Bool) (x y : Nat) (h : x + b.toNat = y) : x + (a && b).toNat + (b || a).toNat = y + a.toNat := by
  subst h
  cases a <;> cases b <;> simp
theorem bot_key (a b : Bool) (k : Nat) (z : Int) (h : z < 0 ↔ b = false) : (if (a && !b) = true then (k : Int) else z) = if a = true ∧ z < 0 then (k : Int) else z := by
  cases a
  · simp
  · cases b
    · simp [h.2 rfl]
    · have : ¬ z < 0 := fun hz => by have := h.1 hz; cases this
      simp [this]
theorem sub_one_div (w p : Nat) (hp : 0 < p) (h : w % p ≠ 0) : (w - 1) / p = w / p := by
  have hd := Nat.div_add_mod w p
  have hm := Nat.mod_lt w hp
  have : w - 1 = p * (w / p) + (w % p - 1) := by omega
  have e0 : (w % p - 1) / p = 0 := Nat.div_eq_of_lt (by omega)
  rw [this, Nat.mul_add_div hp, e0, Nat.add_zero]
theorem sub_one_div0 (w p : Nat) (hp : 0 < p) (h : w % p = 0) (hq : 1 ≤ w / p) : (w - 1) / p = w / p - 1 := by
  have hd := Nat.div_add_mod w p
  obtain ⟨q, hq2⟩ : ∃ q, w / p = q + 1 := ⟨w / p - 1, by omega⟩
  rw [hq2] at hd ⊢
  rw [h, Nat.mul_add] at hd
  have : w - 1 = p * q + (p - 1) := by omega
  rw [this, Nat.mul_add_div hp, Nat.div_eq_of_lt (by omega)]
  omega

theorem cnt_clr (f : Nat → Bool) (k : Nat) : cnt (fun i => f i && any f i) k + (any f k).toNat = cnt f k := by
  induction k with
  | zero => rfl
  | succ k ih => simp only [cnt, any]; exact cnt_key _ _ _ _ ih

theorem bot_neg (f : Nat → Bool) (k : Nat) : bot f k < 0 ↔ any f k = false := by
  induction k with
  | zero => simp [bot, any]
  | succ k ih =>
    simp only [bot, any]
    cases h1 : f k
    · simp [ih]
    · by_cases h2 : bot f k < 0
      · simp [h2]
      · simp [h2]

theorem bot_eq (f : Nat → Bool) (k : Nat) : top (fun i => f i && !any f i) k = bot f k := by
  induction k with
  | zero => rfl
  | succ k ih =>
    simp only [top, bot]
    rw [ih]
    exact bot_key _ _ _ _ (bot_neg f k)

theorem top_bounds (f : Nat → Bool) (k : Nat) : -1 ≤ top f k ∧ top f k < k := by
  induction k with
  | zero => simp [top]
  | succ k ih => simp only [top]; split <;> omega

theorem bot_bounds (f : Nat → Bool) (k : Nat) : -1 ≤ bot f k ∧ bot f k < k := by
  rw [← bot_eq]; exact top_bounds _ _

theorem any_testBit (w k : Nat) : any (fun i => w.testBit i) k = decide (w % 2 ^ k ≠ 0) := by
  induction k with
  | zero => simp [any, Nat.mod_one]
  | succ k ih =>
    simp only [any]
    rw [ih, Nat.mod_pow_succ, Nat.testBit_eq_decide_div_mod_eq]
    have hp := Nat.two_pow_pos k
    have hm : w / 2 ^ k % 2 < 2 := Nat.mod_lt _ (by omega)
    by_cases h1 : w % 2 ^ k = 0
    · by_cases h2 : w / 2 ^ k % 2 = 1
      · simp [h1, h2]
      · have h3 : w / 2 ^ k % 2 = 0 := by omega
        simp [h1, h3]
    · simp [h1]

theorem pred_bit (w i : Nat) (h : w.testBit i = true) : (w - 1).testBit i = decide (w % 2 ^ i ≠ 0) := by
  have hp := Nat.two_pow_pos i
  have hq : w / 2 ^ i % 2 = 1 := by simpa [Nat.testBit_eq_decide_div_mod_eq] using h
  rw [Nat.testBit_eq_decide_div_mod_eq]
  by_cases h1 : w % 2 ^ i = 0
  · have hq1 : 1 ≤ w / 2 ^ i := by generalize w / 2 ^ i = q at hq ⊢; omega
    rw [sub_one_div0 _ _ hp h1 hq1]
    generalize w / 2 ^ i = q at hq hq1 ⊢
    have : ¬ (q - 1) % 2 = 1 := by omega
    simp [h1, this]
  · rw [sub_one_div _ _ hp h1]
    simp [h1, hq]

/-- How many ones a word has, the highest one, the lowest one. -/
def ones (w : Nat) : Nat := cnt (fun i => w.testBit i) 64
def topW (w : Nat) : Int := top (fun i => w.testBit i) 64
def botW (w : Nat) : Int := bot (fun i => w.testBit i) 64

theorem ones_le (w : Nat) : ones w ≤ 64 := cnt_le _ _

theorem ones_zero : ones 0 = 0 := by decide

theorem ones_clr (w : Nat) (h : w < 18446744073709551616) (h0 : w ≠ 0) : ones (w &&& (w - 1)) + 1 = ones w := by
  have e : ones (w &&& (w - 1)) = cnt (fun i => w.testBit i && any (fun i => w.testBit i) i) 64 := by
    unfold ones
    refine cnt_congr 64 fun i _ => ?_
    rw [Nat.testBit_and, any_testBit]
    cases hb : w.testBit i
    · rfl
    · rw [pred_bit w i hb]
  have hc := cnt_clr (fun i => w.testBit i) 64
  have ha : any (fun i => w.testBit i) 64 = true := by
    rw [any_testBit]
    have : w % 2 ^ 64 = w := Nat.mod_eq_of_lt (by simpa using h)
    rw [this]
    simpa using h0
  rw [ha] at hc
  rw [e]
  unfold ones
  simpa using hc

theorem botW_eq (w : Nat) (h : w < 18446744073709551616) (h0 : w ≠ 0) : topW (w &&& (18446744073709551616 - w)) = botW w := by
  unfold topW botW
  rw [← bot_eq]
  refine top_congr 64 fun i hi => ?_
  rw [Nat.testBit_and, any_testBit]
  have e : 18446744073709551616 - w = 2 ^ 64 - ((w - 1) + 1) := by omega
  have hw : w - 1 < 2 ^ 64 := by omega
  rw [e, Nat.testBit_two_pow_sub_succ hw]
  cases hb : w.testBit i
  · rfl
  · rw [pred_bit w i hb, decide_eq_true hi, Bool.true_and]

theorem botW_zero : topW 0 = botW 0 := by decide

theorem top_le (w k n : Nat) (h : w < 2 ^ k) : top (fun i => w.testBit i) k ≤ n ↔ w < 2 ^ (n + 1) := by
  induction k with
  | zero =>
    have := Nat.two_pow_pos (n + 1)
    have hw : w < 1 := by simpa using h
    simp [top]
    omega
  | succ k ih =>
    simp only [top]
    by_cases hb : w.testBit k = true
    · rw [if_pos hb]
      have h1 : 2 ^ k ≤ w := Nat.ge_two_pow_of_testBit hb
      constructor
      · intro hk
        exact Nat.lt_of_lt_of_le h (Nat.pow_le_pow_right (by omega) (by omega))
      · intro hw
        have : k < n + 1 := (Nat.pow_lt_pow_iff_right (by omega)).1 (Nat.lt_of_le_of_lt h1 hw)
        omega
    · rw [if_neg hb]
      refine ih ?_
      have h3 : w / 2 ^ k % 2 ≠ 1 := by simpa [Nat.testBit_eq_decide_div_mod_eq] using hb
      have h4 : w / 2 ^ k < 2 := by rw [Nat.div_lt_iff_lt_mul (Nat.two_pow_pos k)]; rw [Nat.pow_succ] at h; omega
      have h5 : w / 2 ^ k = 0 := by generalize w / 2 ^ k = q at h3 h4 ⊢; omega
      exact (Nat.div_eq_zero_iff_lt (Nat.two_pow_pos k)).1 h5

/-! ### turned, swapped -/
def turn (w k : Nat) : Nat := val (tab fun j => w.testBit ((j + 64 - k) % 64))
def swap (w : Nat) : Nat := val (tab fun j => w.testBit (56 - j / 8 * 8 + j % 8))

theorem turn_lt (w k : Nat) : turn w k < 18446744073709551616 := tab_lt _
theorem swap_lt (w : Nat) : swap w < 18446744073709551616 := tab_lt _

theorem turn_turn (w k : Nat) (hw : w < 18446744073709551616) (hk : k < 64) : turn (turn w k) ((64 - k) % 64) = w := by
  refine eq_of_bits (turn_lt _ _) hw fun i hi => ?_
  unfold turn
  rw [testBit_tab _ _ hi, testBit_tab _ _ (Nat.mod_lt _ (by omega))]
  congr 1
  omega

theorem swap_swap (w : Nat) (hw : w < 18446744073709551616) : swap (swap w) = w := by
  refine eq_of_bits (swap_lt _) hw fun i hi => ?_
  unfold swap
  rw [testBit_tab _ _ hi, testBit_tab _ _ (by omega)]
  congr 1
  omega

theorem ones_turn (w k : Nat) (hk : k < 64) : ones (turn w k) = ones w := by
  have e : ones (turn w k) = cnt (fun j => w.testBit ((j + 64 - k) % 64)) (k + (64 - k)) := by
    unfold ones turn
    rw [show k + (64 - k) = 64 from by omega]
    exact cnt_congr 64 fun i hi => testBit_tab _ _ hi
  have e2 : ones w = cnt (fun j => w.testBit j) ((64 - k) + k) := by
    unfold ones
    rw [show (64 - k) + k = 64 from by omega]
  rw [e, e2, cnt_add, cnt_add, Nat.add_comm]
  have a : cnt (fun i => w.testBit ((k + i + 64 - k) % 64)) (64 - k) = cnt (fun j => w.testBit j) (64 - k) := cnt_congr _ fun i hi => by congr 1; omega
  have b : cnt (fun j => w.testBit ((j + 64 - k) % 64)) k = cnt (fun i => w.testBit (64 - k + i)) k := cnt_congr _ fun i hi => by congr 1; omega
  rw [a, b]

/-- The bytes taken from the low end, one behind the other. -/
def swp (w : Nat) : Nat → Nat
  | 0 => 0
  | k + 1 => swp w k * 256 + w / 2 ^ (8 * k) % 256

theorem testBit_swp (w k j : Nat) (h : j < 8 * k) : (swp w k).testBit j = w.testBit (8 * (k - 1 - j / 8) + j % 8) := by
  induction k generalizing j with
  | zero => omega
  | succ k ih =>
    simp only [swp]
    have hb : w / 2 ^ (8 * k) % 2 ^ 8 < 2 ^ 8 := Nat.mod_lt _ (by omega)
    have e : swp w k * 256 + w / 2 ^ (8 * k) % 256 = 2 ^ 8 * swp w k + w / 2 ^ (8 * k) % 2 ^ 8 := by omega
    rw [e, Nat.testBit_two_pow_mul_add _ hb]
    by_cases hj : j < 8
    · rw [if_pos hj, Nat.testBit_mod_two_pow, decide_eq_true hj, Bool.true_and, Nat.testBit_div_two_pow]
      congr 1
      omega
    · rw [if_neg hj, ih (j - 8) (by omega)]
      congr 1
      omega

theorem swp_lt (w k : Nat) : swp w k < 2 ^ (8 * k) := by
  induction k with
  | zero => simp [swp]
  | succ k ih =>
    simp only [swp]
    have hb : w / 2 ^ (8 * k) % 256 < 256 := Nat.mod_lt _ (by omega)
    have e : 2 ^ (8 * (k + 1)) = 2 ^ (8 * k) * 256 := by rw [show 8 * (k + 1) = 8 * k + 8 from by omega, Nat.pow_add]
    rw [e]
    have := Nat.two_pow_pos (8 * k)
    omega

theorem swp_eq (w : Nat) : swp w 8 = swap w := by
  refine eq_of_bits (by simpa using swp_lt w 8) (swap_lt _) fun i hi => ?_
  rw [testBit_swp _ _ _ (by omega)]
  unfold swap
  rw [testBit_tab _ _ hi]
  congr 1
  omega

/-! ### signed numbers as words -/
def zig (n : Int) : Nat := if 0 ≤ n then (2 * n).toNat else (-2 * n - 1).toNat
def zag (w : Nat) : Int := if w % 2 = 0 then ((w / 2 : Nat) : Int) else -((w / 2 : Nat) : Int) - 1
def flipW (n : Int) : Nat := (n + 9223372036854775808).toNat
def unflipW (w : Nat) : Int := (w : Int) - 9223372036854775808

theorem zag_zig (n : Int) : zag (zig n) = n := by unfold zag zig; split <;> split <;> omega
theorem zig_zag (w : Nat) : zig (zag w) = w := by unfold zag zig; split <;> split <;> omega
theorem unflip_flip (n : Int) (h : -9223372036854775808 ≤ n) : unflipW (flipW n) = n := by unfold unflipW flipW; omega
theorem flip_unflip (w : Nat) : flipW (unflipW w) = w := by unfold unflipW flipW; omega
theorem zig_lt (n : Int) (h1 : -9223372036854775808 ≤ n) (h2 : n ≤ 9223372036854775807) : zig n < 18446744073709551616 := by unfold zig; split <;> omega
theorem flip_lt (n : Int) (h2 : n ≤ 9223372036854775807) : flipW n < 18446744073709551616 := by unfold flipW; omega
theorem zag_bounds (w : Nat) (h : w < 18446744073709551616) : -9223372036854775808 ≤ zag w ∧ zag w ≤ 9223372036854775807 := by unfold zag; split <;> omega
theorem unflip_bounds (w : Nat) (h : w < 18446744073709551616) : -9223372036854775808 ≤ unflipW w ∧ unflipW w ≤ 9223372036854775807 := by unfold unflipW; omega

/-- n bits as a signed number. -/
def sign (w : Nat) (n : Int) : Int :=
  if n < 1 then 0 else
  if w.testBit (min n.toNat 64 - 1) = true then (w % 2 ^ (min n.toNat 64 - 1) : Nat) - 2 ^ (min n.toNat 64 - 1) else (w % 2 ^ (min n.toNat 64 - 1) : Nat)

end Go.Proofs.Ytgedabhobpcghaa.bp
