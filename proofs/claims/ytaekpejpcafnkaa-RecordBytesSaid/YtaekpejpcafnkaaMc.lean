/-
  Layer 3, plain: what a writer does with a field's bytes. No program is imported.
  Layer 3, plain: what a reader finds. No program is imported.
  Layer 10, plain: records; what a kind uses; whether one is right. No program is imported.
  Layer 10, plain: what is read of bytes. No program is imported.
-/
import Derived.Test.YtaekpejpcafnkaaMb
import Derived.Test.YtaekpejpcafnkaaRows
import Derived.Laws.BytesArg
namespace Go.Proofs.Ytaekpejpcafnkaa.wp
/-- What is written, and the first error. -/
def wput (room : Int) (bs : List Int) (s : List Int × Int) : List Int × Int :=
  if s.2 = 0 then (if room - s.1.length < bs.length then (s.1, 2) else (s.1 ++ bs, 0)) else s
/-- An error, if it is the first one. -/
def meet (e : Int) (s : List Int × Int) : List Int × Int := if s.2 = 0 then (s.1, e) else s
theorem wput_bad {room : Int} {bs : List Int} {s : List Int × Int} (h : s.2 ≠ 0) : wput room bs s = s := by unfold wput; rw [if_neg h]
theorem wput_long {room : Int} {bs l : List Int} (h : room - l.length < bs.length) : wput room bs (l, 0) = (l, 2) := by unfold wput; rw [if_pos rfl, if_pos h]
theorem wput_fits {room : Int} {bs l : List Int} (h : ¬ room - l.length < bs.length) : wput room bs (l, 0) = (l ++ bs, 0) := by unfold wput; rw [if_pos rfl, if_neg h]
end Go.Proofs.Ytaekpejpcafnkaa.wp

namespace Go.Proofs.Ytaekpejpcafnkaa.wp
open Go.Proofs.Ytaekpejpcafnkaa.dp
/-- A number of so many bytes: its value, how many bytes, the error. -/
def fixF (s : Nat) (l : List Int) : Int × Int × Int := if l.length < s then (0, 0, 4) else (beF 0 (l.take s), (s : Int), 0)
def numF (most : Int) (l : List Int) : Int × Int × Int :=
  if (readS l).2.2 = 0 then (if most < (readS l).1 then (0, 0, 5) else ((readS l).1, (readS l).2.1, 0)) else (0, 0, (readS l).2.2)
def txtF (most : Int) (l : List Int) : List Int × Int × Int :=
  if (readS l).2.2 = 0 then
    (if (if most < 0 then 0 else most) < (readS l).1 then ([], 0, 2)
     else if (l.length : Int) - (readS l).2.1 < (readS l).1 then ([], 0, 4)
     else ((l.drop (readS l).2.1.toNat).take (readS l).1.toNat, (readS l).2.1 + (readS l).1, 0))
  else ([], 0, (readS l).2.2)
/-- A reader that has met no error goes on by what was found. -/
def tkF {α : Type} (z : α) (r : α × Int × Int) (l : List Int) (e : Int) : α × List Int × Int := if e = 0 then (r.1, l.drop r.2.1.toNat, r.2.2) else (z, l, e)
theorem rsF_bounds : ∀ (l : List Int) (i : Nat) (n : Int), (∀ v ∈ l, 0 ≤ v ∧ v ≤ 255) → i ≤ 9 → 0 ≤ n → n < pw i → (rsF l i n).2.2 = 0 → 0 ≤ (rsF l i n).1 ∧ (rsF l i n).1 < 18446744073709551616 ∧ (i : Int) + 1 ≤ (rsF l i n).2.1 ∧ (rsF l i n).2.1 ≤ i + l.length := by
  intro l
  induction l with
  | nil => intro i n _ _ _ _ h; simp [rsF] at h
  | cons x xs ih =>
    intro i n hB hi h0 h1 h
    have hx := hB x (by simp)
    rw [rsF] at h ⊢
    split
    · rename_i g; rw [if_pos g] at h; simp at h
    · rename_i g
      rw [if_neg g] at h
      have hpp := pw_pos i
      split
      · rename_i g2
        simp only
        refine ⟨by have := Int.mul_nonneg hx.1 (by omega : 0 ≤ pw i); omega, ?_, Int.le_refl _, by simp; omega⟩
        by_cases h9 : i = 9
        · subst h9
          have hx1 : x ≤ 1 := by omega
          have : x * pw 9 ≤ 1 * pw 9 := Int.mul_le_mul_of_nonneg_right hx1 (by omega)
          rw [pw_nine] at *
          omega
        · have hpl := pw_le i (by omega)
          have : x * pw i ≤ 127 * pw i := Int.mul_le_mul_of_nonneg_right (by omega) (by omega)
          omega
      · rename_i g2
        rw [if_neg g2] at h
        by_cases h9 : i = 9
        · omega
        · have hm : 0 ≤ (x - 128) * pw i := Int.mul_nonneg (by omega) (by omega)
          have hm2 : (x - 128) * pw i ≤ 127 * pw i := Int.mul_le_mul_of_nonneg_right (by omega) (by omega)
          obtain ⟨k1, k2, k3, k4⟩ := ih (i + 1) (n + (x - 128) * pw i) (fun v hv => hB v (by simp [hv])) (by omega) (by omega) (by rw [pw_succ]; omega) h
          exact ⟨k1, k2, by omega, by simp; omega⟩
theorem readS_bounds (l : List Int) (hB : ∀ v ∈ l, 0 ≤ v ∧ v ≤ 255) (h : (readS l).2.2 = 0) : 0 ≤ (readS l).1 ∧ (readS l).1 < 18446744073709551616 ∧ 1 ≤ (readS l).2.1 ∧ (readS l).2.1 ≤ l.length := by
  have := rsF_bounds l 0 0 hB (by omega) (by omega) (by decide) h
  unfold readS at *
  simp at this ⊢
  exact this
theorem txtF_k (most : Int) (l : List Int) (hB : ∀ v ∈ l, 0 ≤ v ∧ v ≤ 255) : (0 ≤ (txtF most l).2.1 ∧ (txtF most l).2.1 ≤ l.length) ∧ ((txtF most l).2.2 ≠ 0 → (txtF most l).2.1 = 0) := by
  have hbd := readS_bounds l hB
  unfold txtF
  generalize (if most < 0 then 0 else most) = M
  by_cases h : (readS l).2.2 = 0
  · rw [if_pos h]
    obtain ⟨b1, b2, b3, b4⟩ := hbd h
    by_cases h1 : M < (readS l).1
    · rw [if_pos h1]; simp
    · rw [if_neg h1]
      by_cases h2 : (l.length : Int) - (readS l).2.1 < (readS l).1
      · rw [if_pos h2]; simp
      · rw [if_neg h2]
        simp only
        omega
  · rw [if_neg h]; simp
/-- What is got of a field: the number, the text, the bytes that are left, the error. -/
def getF (k most : Nat) (l : List Int) (e : Int) : (Int × List Int) × List Int × Int :=
  if k = 0 then (((tkF 0 (fixF 1 l) l e).1, []), (tkF 0 (fixF 1 l) l e).2)
  else if k = 1 then (((tkF 0 (fixF 2 l) l e).1, []), (tkF 0 (fixF 2 l) l e).2)
  else if k = 2 then (((tkF 0 (fixF 8 l) l e).1, []), (tkF 0 (fixF 8 l) l e).2)
  else if k = 3 then (((tkF 0 (numF most l) l e).1, []), (tkF 0 (numF most l) l e).2)
  else ((0, (tkF [] (txtF (most % 1000000 : Nat) l) l e).1), (tkF [] (txtF (most % 1000000 : Nat) l) l e).2)
end Go.Proofs.Ytaekpejpcafnkaa.wp

namespace Go.Proofs.Ytaekpejpcafnkaa.rp
set_option linter.unusedVariables false

/-- A record: kind, state, user, parent, mask, gone, revision, time, text. -/
structure R where
  k : Int
  s : Int
  u : Int
  p : Int
  m : Int
  g : Bool
  v : Int
  a : Int
  t : ByteArray

/-- Its numbers are of their types. -/
structure R.ok (r : R) : Prop where
  k : 0 ≤ r.k ∧ r.k ≤ 255
  s : 0 ≤ r.s ∧ r.s ≤ 255
  u : 0 ≤ r.u ∧ r.u ≤ 255
  p : 0 ≤ r.p ∧ r.p ≤ 255
  m : 0 ≤ r.m ∧ r.m ≤ 255
  v : 0 ≤ r.v ∧ r.v ≤ 4294967295
  a : 0 ≤ r.a ∧ r.a ≤ 18446744073709551615
  t : r.t.size ≤ 9223372036854775807

/-- What a kind uses: which of the visitor's closures, and which field. -/
def usesK (k : Int) : List (Nat × Nat) :=
  if k = 1 then [(0, 2)] else if k = 2 then [(0, 4)] else if k = 4 then [(0, 3), (0, 1), (3, 7)] else if k = 5 then [(1, 5), (2, 6), (4, 8)] else if k = 6 then [(0, 1), (0, 2), (2, 6), (4, 8)] else []

/-- Is nothing set that the kind doesn't use? -/
def bareZ (r : R) : Prop :=
  ((r.k = 4 ∨ r.k = 6) ∨ r.s = 0) ∧ ((r.k = 1 ∨ r.k = 6) ∨ r.u = 0) ∧ (r.k = 4 ∨ r.p = 0) ∧ (r.k = 2 ∨ r.m = 0) ∧ (r.k = 5 ∨ r.g = false) ∧ ((r.k = 5 ∨ r.k = 6) ∨ r.v = 0) ∧ (r.k = 4 ∨ r.a = 0) ∧ ((r.k = 5 ∨ r.k = 6) ∨ r.t = ⟨#[]⟩)
/-- Are a right kind's numbers? -/
def inZ (r : R) : Prop :=
  (r.k = 1 → r.u < 16) ∧ (r.k = 2 → 1 ≤ r.m ∧ r.m ≤ 63) ∧ (r.k = 4 → r.p < 4 ∧ r.s ≤ 1) ∧ (r.k = 5 → 0 < r.v) ∧ (r.k = 6 → (1 ≤ r.s ∧ r.s ≤ 5) ∧ r.u < 16 ∧ 0 < r.v)
instance (r : R) : Decidable (bareZ r) := by unfold bareZ; infer_instance
instance (r : R) : Decidable (inZ r) := by unfold inZ; infer_instance
/-- What is wrong with a record. -/
def checkF (r : R) : Int :=
  if r.k < 1 ∨ 6 < r.k then 16
  else if ¬ bareZ r then 3
  else if ¬ inZ r then 5
  else if 60 < r.t.size then 2
  else if r.g = true ∧ r.t ≠ ⟨#[]⟩ then 3
  else 0
end Go.Proofs.Ytaekpejpcafnkaa.rp

namespace Go.Proofs.Ytaekpejpcafnkaa.rp
open Go.Proofs.Ytaekpejpcafnkaa.wp Go.Proofs.Ytaekpejpcafnkaa.dp
set_option linter.unusedVariables false

/-- A record, the bytes that are left, the first error, an odd mark. -/
structure St where
  r : R
  l : List Int
  e : Int
  o : Bool

/-- One of the small fields set. -/
def setU (off : Nat) (n : Int) (r : R) : R := if off = 1 then { r with s := n } else if off = 2 then { r with u := n } else if off = 3 then { r with p := n } else { r with m := n }
/-- A field is read. -/
def rdF (s : St) (x : Nat × Nat) : St :=
  if x.1 = 0 then ⟨setU x.2 (tkF 0 (fixF 1 s.l) s.l s.e).1 s.r, (tkF 0 (fixF 1 s.l) s.l s.e).2.1, (tkF 0 (fixF 1 s.l) s.l s.e).2.2, s.o⟩
  else if x.1 = 1 then ⟨{ s.r with g := decide ((tkF 0 (fixF 1 s.l) s.l s.e).1 = 1) }, (tkF 0 (fixF 1 s.l) s.l s.e).2.1, (tkF 0 (fixF 1 s.l) s.l s.e).2.2, decide (1 < (tkF 0 (fixF 1 s.l) s.l s.e).1)⟩
  else if x.1 = 2 then ⟨{ s.r with v := (tkF 0 (numF 4294967295 s.l) s.l s.e).1 }, (tkF 0 (numF 4294967295 s.l) s.l s.e).2.1, (tkF 0 (numF 4294967295 s.l) s.l s.e).2.2, s.o⟩
  else if x.1 = 3 then ⟨{ s.r with a := (tkF 0 (numF 18446744073709551615 s.l) s.l s.e).1 }, (tkF 0 (numF 18446744073709551615 s.l) s.l s.e).2.1, (tkF 0 (numF 18446744073709551615 s.l) s.l s.e).2.2, s.o⟩
  else ⟨{ s.r with t := strOfNums (tkF [] (txtF 60 s.l) s.l s.e).1 }, (tkF [] (txtF 60 s.l) s.l s.e).2.1, (tkF [] (txtF 60 s.l) s.l s.e).2.2, s.o⟩
/-- The first j fields of a kind are read. -/
def rdJ (k : Int) (s : St) (j : Nat) : St := ((usesK k).take j).foldl rdF s
theorem rdJ_succ {k : Int} {s : St} {j : Nat} {x : Nat × Nat} (h : (usesK k)[j]? = some x) : rdJ k s (j + 1) = rdF (rdJ k s j) x := by
  obtain ⟨hj, hx⟩ := List.getElem?_eq_some_iff.1 h
  unfold rdJ
  rw [List.take_succ_eq_append_getElem hj, List.foldl_append, hx]
  rfl
def zR : R := ⟨0, 0, 0, 0, 0, false, 0, 0, ⟨#[]⟩⟩
def kR (k : Int) : R := ⟨k, 0, 0, 0, 0, false, 0, 0, ⟨#[]⟩⟩
/-- All the fields, behind the kind. -/
def fieldsF (k : Int) (l : List Int) : St := rdJ k ⟨kR k, l, 0, false⟩ (usesK k).length
/-- What is wrong with what was read. -/
def errF (s : St) : Int := if s.e = 0 then (if s.o = true then 5 else checkF s.r) else s.e
/-- The first record of bytes, how many it has, the error. -/
def readF (l : List Int) : R × Int × Int :=
  match l with
  | [] => (zR, 0, 4)
  | k :: l1 =>
    if k < 1 ∨ 6 < k then (zR, 0, 16)
    else if errF (fieldsF k l1) = 0 then ((fieldsF k l1).r, ((k :: l1).length : Int) - ((fieldsF k l1).l.length : Int), 0) else (zR, 0, errF (fieldsF k l1))
theorem fix1_nil : tkF 0 (fixF 1 []) [] 0 = (0, [], 4) := rfl
theorem fix1_cons (k : Int) (l : List Int) : tkF 0 (fixF 1 (k :: l)) (k :: l) 0 = (k, l, 0) := by
  simp [tkF, fixF, beF]
theorem numF_most (most : Int) (l : List Int) (hm : 0 ≤ most) (hB : ∀ v ∈ l, 0 ≤ v ∧ v ≤ 255) : 0 ≤ (numF most l).1 ∧ (numF most l).1 ≤ most := by
  unfold numF
  split
  · next h =>
    have := readS_bounds l hB h
    split
    · exact ⟨Int.le_refl _, hm⟩
    · exact ⟨this.1, by simp only; omega⟩
  · exact ⟨Int.le_refl _, hm⟩
theorem fix1_bounds (l : List Int) (hB : ∀ v ∈ l, 0 ≤ v ∧ v ≤ 255) : 0 ≤ (fixF 1 l).1 ∧ (fixF 1 l).1 ≤ 255 := by
  cases l with
  | nil => simp [fixF]
  | cons x xs =>
    have := hB x (by simp)
    simp [fixF, beF]
    exact this
theorem txt60 (l : List Int) : (txtF 60 l).1.length ≤ 60 := by
  unfold txtF
  rw [if_neg (show ¬ ((60 : Int) < 0) from by decide)]
  by_cases h : (readS l).2.2 = 0
  · rw [if_pos h]
    by_cases h1 : (60 : Int) < (readS l).1
    · rw [if_pos h1]; simp
    · rw [if_neg h1]
      by_cases h2 : (l.length : Int) - (readS l).2.1 < (readS l).1
      · rw [if_pos h2]; simp
      · rw [if_neg h2, List.length_take]
        omega
  · rw [if_neg h]; simp
theorem tk_bounds {α : Type} (P : α → Prop) (z : α) (r : α × Int × Int) (l : List Int) (e : Int) (hz : P z) (hr : P r.1) : P (tkF z r l e).1 := by
  unfold tkF
  split
  · exact hr
  · exact hz
theorem rdF_ok {s : St} {x : Nat × Nat} (h : s.r.ok) (hB : ∀ v ∈ s.l, 0 ≤ v ∧ v ≤ 255) : (rdF s x).r.ok ∧ (rdF s x).r.k = s.r.k := by
  have b1 : 0 ≤ (tkF 0 (fixF 1 s.l) s.l s.e).1 ∧ (tkF 0 (fixF 1 s.l) s.l s.e).1 ≤ 255 := tk_bounds (fun n : Int => 0 ≤ n ∧ n ≤ 255) 0 _ _ _ (by omega) (fix1_bounds s.l hB)
  have b2 : 0 ≤ (tkF 0 (numF 4294967295 s.l) s.l s.e).1 ∧ (tkF 0 (numF 4294967295 s.l) s.l s.e).1 ≤ 4294967295 := tk_bounds (fun n : Int => 0 ≤ n ∧ n ≤ 4294967295) 0 _ _ _ (by omega) (numF_most _ s.l (by omega) hB)
  have b3 : 0 ≤ (tkF 0 (numF 18446744073709551615 s.l) s.l s.e).1 ∧ (tkF 0 (numF 18446744073709551615 s.l) s.l s.e).1 ≤ 18446744073709551615 := tk_bounds (fun n : Int => 0 ≤ n ∧ n ≤ 18446744073709551615) 0 _ _ _ (by omega) (numF_most _ s.l (by omega) hB)
  have b4 : (tkF [] (txtF 60 s.l) s.l s.e).1.length ≤ 60 := tk_bounds (fun n : List Int => n.length ≤ 60) [] _ _ _ (by simp) (txt60 s.l)
  obtain ⟨h1, h2, h3, h4, h5, h6, h7, h8⟩ := h
  unfold rdF
  split
  · unfold setU
    repeat' split
    · exact ⟨⟨h1, b1, h3, h4, h5, h6, h7, h8⟩, rfl⟩
    · exact ⟨⟨h1, h2, b1, h4, h5, h6, h7, h8⟩, rfl⟩
    · exact ⟨⟨h1, h2, h3, b1, h5, h6, h7, h8⟩, rfl⟩
    · exact ⟨⟨h1, h2, h3, h4, b1, h6, h7, h8⟩, rfl⟩
  split
  · exact ⟨⟨h1, h2, h3, h4, h5, h6, h7, h8⟩, rfl⟩
  split
  · exact ⟨⟨h1, h2, h3, h4, h5, b2, h7, h8⟩, rfl⟩
  split
  · exact ⟨⟨h1, h2, h3, h4, h5, h6, b3, h8⟩, rfl⟩
  · exact ⟨⟨h1, h2, h3, h4, h5, h6, h7, by simp only [strOfNums_size]; omega⟩, rfl⟩
end Go.Proofs.Ytaekpejpcafnkaa.rp
