/-
  Plain facts on words as natural numbers: bits, fields, and lists of bits as numbers. No program is imported.
-/
namespace Go.Proofs.Ytgedabhobpcghaa.bp

/-- The number of a list of bits, the lowest first. -/
def val : List Bool → Nat
  | [] => 0
  | b :: r => 2 * val r + b.toNat

theorem val_lt (l : List Bool) : val l < 2 ^ l.length := by
  induction l with
  | nil => simp [val]
  | cons b r ih =>
    simp only [val, List.length_cons, Nat.pow_succ]
    cases b <;> simp <;> omega

theorem testBit_val (l : List Bool) (i : Nat) : (val l).testBit i = l.getD i false := by
  induction l generalizing i with
  | nil => simp [val]
  | cons b r ih =>
    cases i with
    | zero => cases b <;> simp [val, Nat.testBit_zero]
    | succ i =>
      have h : val (b :: r) / 2 = val r := by simp only [val]; cases b <;> simp <;> omega
      rw [Nat.testBit_succ, h, ih]
      simp

/-- The lowest k bits. -/
def low (k : Nat) : Nat := 2 ^ (min k 64) - 1

theorem low_lt (k : Nat) : low k < 18446744073709551616 := by
  unfold low
  have h : 2 ^ (min k 64) ≤ 2 ^ 64 := Nat.pow_le_pow_right (by omega) (by omega)
  have e : (2:Nat) ^ 64 = 18446744073709551616 := by decide
  have := Nat.two_pow_pos (min k 64)
  omega

theorem testBit_low (k i : Nat) : (low k).testBit i = decide (i < k ∧ i < 64) := by
  unfold low
  rw [Nat.testBit_two_pow_sub_one]
  congr 1
  apply propext
  omega

theorem testBit_big (w i : Nat) (h : w < 18446744073709551616) (hi : 64 ≤ i) : w.testBit i = false := by
  apply Nat.testBit_lt_two_pow
  have e : (2:Nat) ^ 64 = 18446744073709551616 := by decide
  have : 2 ^ 64 ≤ 2 ^ i := Nat.pow_le_pow_right (by omega) hi
  omega

theorem eq_of_bits {a b : Nat} (ha : a < 18446744073709551616) (hb : b < 18446744073709551616) (h : ∀ i, i < 64 → a.testBit i = b.testBit i) : a = b := by
  apply Nat.eq_of_testBit_eq
  intro i
  by_cases hi : i < 64
  · exact h i hi
  · rw [testBit_big a i ha (by omega), testBit_big b i hb (by omega)]

theorem pow_lt (k : Nat) (h : k < 64) : 2 ^ k < 18446744073709551616 := by
  have e : (2:Nat) ^ 64 = 18446744073709551616 := by decide
  rw [← e]
  exact Nat.pow_lt_pow_right (by omega) h

/-- Is a field there? -/
def there (lo n : Int) : Bool := decide (0 ≤ lo ∧ 0 ≤ n ∧ lo ≤ 64 ∧ n ≤ 64 - lo)

/-- A field of a word. -/
def getF (w : Nat) (lo n : Int) : Nat := if there lo n = true then w / 2 ^ lo.toNat % 2 ^ n.toNat else 0

/-- A word with another field. -/
def putF (w : Nat) (lo n : Int) (v : Nat) : Nat :=
  if there lo n = true then val ((List.range 64).map fun i => if lo.toNat ≤ i ∧ i < lo.toNat + n.toNat then v.testBit (i - lo.toNat) else w.testBit i) else w

theorem there_iff (lo n : Int) : there lo n = true ↔ (0 ≤ lo ∧ 0 ≤ n ∧ lo ≤ 64 ∧ n ≤ 64 - lo) := by simp [there]

theorem val_range_lt (f : Nat → Bool) : val ((List.range 64).map f) < 18446744073709551616 := by
  have h := val_lt ((List.range 64).map f)
  have e : (2:Nat) ^ 64 = 18446744073709551616 := by decide
  simp only [List.length_map, List.length_range] at h
  omega

theorem testBit_range (f : Nat → Bool) (i : Nat) (hi : i < 64) : (val ((List.range 64).map f)).testBit i = f i := by
  rw [testBit_val]
  simp [List.getD, hi]

theorem getF_lt (w : Nat) (lo n : Int) (hw : w < 18446744073709551616) : getF w lo n < 18446744073709551616 := by
  unfold getF
  split
  · exact Nat.lt_of_le_of_lt (Nat.mod_le _ _) (Nat.lt_of_le_of_lt (Nat.div_le_self _ _) hw)
  · omega

theorem putF_lt (w : Nat) (lo n : Int) (v : Nat) (hw : w < 18446744073709551616) : putF w lo n v < 18446744073709551616 := by
  unfold putF
  split
  · exact val_range_lt _
  · exact hw

theorem testBit_getF (w : Nat) (lo n : Nat) (h : lo + n ≤ 64) (i : Nat) : (getF w lo n).testBit i = (decide (i < n) && w.testBit (lo + i)) := by
  have ht : there (lo : Int) (n : Int) = true := (there_iff _ _).2 (by omega)
  unfold getF
  rw [if_pos ht]
  simp [Nat.testBit_mod_two_pow, Nat.testBit_div_two_pow, Nat.add_comm]

theorem testBit_putF (w lo n v : Nat) (h : lo + n ≤ 64) (i : Nat) (hi : i < 64) : (putF w lo n v).testBit i = if lo ≤ i ∧ i < lo + n then v.testBit (i - lo) else w.testBit i := by
  have ht : there (lo : Int) (n : Int) = true := (there_iff _ _).2 (by omega)
  unfold putF
  rw [if_pos ht, testBit_range _ _ hi]
  simp

theorem val_drop (l : List Bool) (j : Nat) (h : j < l.length) : val (l.drop j) = 2 * val (l.drop (j + 1)) + (l.getD j false).toNat := by
  rw [List.drop_eq_getElem_cons h]
  simp [val, List.getD, h]

theorem val_drop_lt (l : List Bool) (j : Nat) (h : l.length = 64) (hj : j < 64) : val (l.drop (j + 1)) < 9223372036854775808 := by
  have h1 := val_lt (l.drop (j + 1))
  have h2 : (l.drop (j + 1)).length ≤ 63 := by rw [List.length_drop]; omega
  have h3 : 2 ^ (l.drop (j + 1)).length ≤ 2 ^ 63 := Nat.pow_le_pow_right (by omega) h2
  have e : (2:Nat) ^ 63 = 9223372036854775808 := by decide
  omega

theorem val_lt64 (l : List Bool) (h : l.length = 64) : val l < 18446744073709551616 := by
  have h1 := val_lt l
  rw [h] at h1
  have e : (2:Nat) ^ 64 = 18446744073709551616 := by decide
  omega

/-- 2 to the k. -/
def pw (k : Nat) : Nat := 2 ^ k
theorem pw_zero : pw 0 = 1 := rfl
theorem pw_succ (k : Nat) : pw (k + 1) = pw k * 2 := Nat.pow_succ ..
theorem pw_pos (k : Nat) : 0 < pw k := Nat.two_pow_pos k
theorem pw_lt (k : Nat) (h : k < 64) : pw k < 18446744073709551616 := pow_lt k h

theorem testBit_eq (w i : Nat) : w.testBit i = decide (w / pw i % 2 = 1) := by
  unfold pw
  rw [Nat.testBit_eq_decide_div_mod_eq]

theorem val_yes (l : List Bool) (j : Nat) (h : j < l.length) (hb : l[j]?.getD false = true) : val (l.drop j) = val (l.drop (j + 1)) * 2 + 1 := by
  rw [val_drop l j h]
  have : l.getD j false = true := by simpa [List.getD] using hb
  rw [this]
  simp
  omega

theorem val_no (l : List Bool) (j : Nat) (h : j < l.length) (hb : l[j]?.getD false = false) : val (l.drop j) = val (l.drop (j + 1)) * 2 := by
  rw [val_drop l j h]
  have : l.getD j false = false := by simpa [List.getD] using hb
  rw [this]
  simp
  omega

/-- 64 bits as a list. -/
def tab (f : Nat → Bool) : List Bool := (List.range 64).map f
theorem tab_length (f : Nat → Bool) : (tab f).length = 64 := by simp [tab]
theorem tab_congr {f g : Nat → Bool} (h : ∀ i, i < 64 → f i = g i) : tab f = tab g := by
  unfold tab
  apply List.map_congr_left
  intro i hi
  exact h i (by simpa using hi)
theorem tab_getD (f : Nat → Bool) (i : Nat) (hi : i < 64) : (tab f)[i]?.getD false = f i := by simp [tab, hi]

theorem testBit_tab (f : Nat → Bool) (i : Nat) (hi : i < 64) : (val (tab f)).testBit i = f i := testBit_range f i hi
theorem tab_lt (f : Nat → Bool) : val (tab f) < 18446744073709551616 := val_range_lt f

theorem step_bits (f : Nat → Bool) (k i : Nat) : (if i = k then f k else (decide (i < k) && f i)) = (decide (i < k + 1) && f i) := by
  by_cases h : i = k
  · subst h; simp
  · have e : (i < k + 1) ↔ (i < k) := by omega
    simp [h, e]

theorem step_get (w L k i : Nat) : (if i = k then w.testBit (L + k) else (decide (i < k) && w.testBit (L + i))) = (decide (i < k + 1) && w.testBit (L + i)) :=
  step_bits (fun j => w.testBit (L + j)) k i

theorem val_low (n : Int) : val (tab fun j => decide (j < 64) && decide ((j : Int) < n)) = low n.toNat := by
  refine eq_of_bits (tab_lt _) (low_lt _) fun i hi => ?_
  rw [testBit_tab _ _ hi, testBit_low]
  have e : ((i : Int) < n) ↔ (i < n.toNat) := by omega
  have e2 : (i < n.toNat ∧ i < 64) ↔ (i < n.toNat) := by omega
  rw [show decide ((i : Int) < n) = decide (i < n.toNat) from decide_eq_decide.2 e, decide_eq_decide.2 e2, decide_eq_true hi, Bool.true_and]

theorem val_getF (w lo n : Nat) (h : lo + n ≤ 64) (hw : w < 18446744073709551616) : val (tab fun j => decide (j < n) && w.testBit (lo + j)) = getF w lo n := by
  refine eq_of_bits (tab_lt _) (getF_lt _ _ _ hw) fun i hi => ?_
  rw [testBit_tab _ _ hi, testBit_getF _ _ _ h]

theorem val_zero : val (tab fun _ => false) = 0 := by
  refine eq_of_bits (tab_lt _) (by decide) fun i hi => ?_
  rw [testBit_tab _ _ hi]
  simp

theorem val_same (w : Nat) (hw : w < 18446744073709551616) : val (tab fun j => w.testBit j) = w := by
  refine eq_of_bits (tab_lt _) hw fun i hi => ?_
  rw [testBit_tab _ _ hi]

theorem val_putF (w lo n v : Nat) (h : lo + n ≤ 64) (hw : w < 18446744073709551616) :
    val (tab fun j => if lo ≤ j ∧ j < lo + n then v.testBit (j - lo) else w.testBit j) = putF w lo n v := by
  refine eq_of_bits (tab_lt _) (putF_lt _ _ _ _ hw) fun i hi => ?_
  rw [testBit_tab _ _ hi, testBit_putF _ _ _ _ h _ hi]

theorem put_step (w lo k v j : Nat) : (if j = lo + k then v.testBit k else if lo ≤ j ∧ j < lo + k then v.testBit (j - lo) else w.testBit j) =
    if lo ≤ j ∧ j < lo + (k + 1) then v.testBit (j - lo) else w.testBit j := by
  by_cases h : j = lo + k
  · subst h
    have e : lo + k - lo = k := by omega
    have e2 : lo ≤ lo + k ∧ lo + k < lo + (k + 1) := by omega
    rw [if_pos rfl, if_pos e2, e]
  · have e : (lo ≤ j ∧ j < lo + (k + 1)) ↔ (lo ≤ j ∧ j < lo + k) := by omega
    simp only [h, e, if_false]

end Go.Proofs.Ytgedabhobpcghaa.bp
