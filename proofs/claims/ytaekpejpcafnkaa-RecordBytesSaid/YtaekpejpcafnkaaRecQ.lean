/-
  Layer 10, plain: what is written is read, what is read is written; what is cut off is not read.
-/
import Derived.Test.YtaekpejpcafnkaaRecN
import Derived.Test.YtaekpejpcafnkaaMb
namespace Go.Proofs.Ytaekpejpcafnkaa.rw
open Go.Proofs.Ytaekpejpcafnkaa.ba Go.Proofs.Ytaekpejpcafnkaa.rp Go.Proofs.Ytaekpejpcafnkaa.dp Go.Proofs.Ytaekpejpcafnkaa.wp Go.Proofs.Ytaekpejpcafnkaa.ww
set_option linter.unusedVariables false

theorem str_back (s : ByteArray) : strOfNums (strL s) = s := by
  cases s with
  | mk d =>
    simp [strOfNums, strL, Function.comp_def]
/-- A field of one record, as another has it. -/
def cpF (q r : R) (x : Nat × Nat) : R :=
  if x.1 = 0 then setU x.2 (u8At r x.2) q else if x.1 = 1 then { q with g := r.g } else if x.1 = 2 then { q with v := r.v } else if x.1 = 3 then { q with a := r.a } else { q with t := r.t }
theorem num_back (most : Int) (n : Nat) (rest : List Int) (hn : n < 18446744073709551616) (hm : (n : Int) ≤ most) : tkF 0 (numF most (smaL n ++ rest)) (smaL n ++ rest) 0 = ((n : Int), rest, 0) := by
  have h := readS_smaL n hn rest
  unfold tkF numF
  rw [if_pos rfl, h]
  simp only [if_true]
  rw [if_neg (by omega)]
  simp
theorem txt_back (t : ByteArray) (rest : List Int) (ht : t.size ≤ 60) : tkF [] (txtF 60 (smaL t.size ++ strL t ++ rest)) (smaL t.size ++ strL t ++ rest) 0 = (strL t, rest, 0) := by
  have h := readS_smaL t.size (by omega) (strL t ++ rest)
  have hl := strL_len t
  rw [← List.append_assoc] at h
  unfold tkF txtF
  rw [if_pos rfl, h]
  simp only [if_true]
  rw [if_neg (show ¬ ((60 : Int) < 0) from by decide), if_neg (by omega), if_neg (by simp only [List.length_append]; omega)]
  simp only
  have e1 : ((smaL t.size).length : Int).toNat = (smaL t.size).length := by simp
  have e2 : ((t.size : Nat) : Int).toNat = t.size := by simp
  have e3 : (((smaL t.size).length : Int) + (t.size : Int)).toNat = (smaL t.size).length + t.size := by omega
  rw [e1, e2, e3, List.append_assoc, List.drop_left, ← hl, List.take_left, ← List.drop_drop, List.drop_left, List.drop_left]
/-- A field that was written is read. -/
theorem rd_back (r q : R) (x : Nat × Nat) (rest : List Int) (o : Bool) (hr : r.ok) (ht : r.t.size ≤ 60) : rdF ⟨q, fbR r x ++ rest, 0, o⟩ x = ⟨cpF q r x, rest, 0, if x.1 = 1 then false else o⟩ := by
  unfold rdF fbR cpF
  by_cases h0 : x.1 = 0
  · simp only [h0, if_true, List.singleton_append, fix1_cons, show ¬ ((0 : Nat) = 1) from by decide, if_false]
  by_cases h1 : x.1 = 1
  · simp only [h1, if_true, show ¬ ((1 : Nat) = 0) from by decide, if_false, List.singleton_append, fix1_cons]
    cases hg : r.g <;> simp [gB]
  by_cases h2 : x.1 = 2
  · simp only [h2, if_true, show ¬ ((2 : Nat) = 0) from by decide, show ¬ ((2 : Nat) = 1) from by decide, if_false]
    rw [num_back 4294967295 r.v.toNat rest (by have := hr.v; omega) (by have := hr.v; omega), show ((r.v.toNat : Nat) : Int) = r.v from by have := hr.v; omega]
  by_cases h3 : x.1 = 3
  · simp only [h3, if_true, show ¬ ((3 : Nat) = 0) from by decide, show ¬ ((3 : Nat) = 1) from by decide, show ¬ ((3 : Nat) = 2) from by decide, if_false]
    rw [num_back 18446744073709551615 r.a.toNat rest (by have := hr.a; omega) (by have := hr.a; omega), show ((r.a.toNat : Nat) : Int) = r.a from by have := hr.a; omega]
  · simp only [h0, h1, h2, h3, if_false]
    rw [txt_back r.t rest ht, str_back]
theorem fold_back (r : R) (hr : r.ok) (ht : r.t.size ≤ 60) : ∀ (xs : List (Nat × Nat)) (q : R) (rest : List Int), xs.foldl rdF ⟨q, xs.flatMap (fbR r) ++ rest, 0, false⟩ = ⟨xs.foldl (fun q x => cpF q r x) q, rest, 0, false⟩ := by
  intro xs
  induction xs with
  | nil => intro q rest; rfl
  | cons x xs ih =>
    intro q rest
    rw [List.foldl_cons, List.flatMap_cons, List.append_assoc, rd_back r q x _ false hr ht]
    simp only [ite_self]
    rw [ih (cpF q r x) rest, List.foldl_cons]
theorem right_parts {r : R} (h : checkF r = 0) : (1 ≤ r.k ∧ r.k ≤ 6) ∧ bareZ r ∧ r.t.size ≤ 60 := by
  unfold checkF at h
  repeat' split at h
  all_goals first | exact absurd h (by decide) | skip
  rename_i h1 h2 h3 h4 h5
  exact ⟨by omega, Decidable.of_not_not h2, by omega⟩
theorem cp_all {r : R} (h : bareZ r) (h1 : 1 ≤ r.k) (h6 : r.k ≤ 6) : (usesK r.k).foldl (fun q x => cpF q r x) (kR r.k) = r := by
  obtain ⟨k, s, u, p, m, g, v, a, t⟩ := r
  simp only at h1 h6 ⊢
  have hkk : k = 1 ∨ k = 2 ∨ k = 3 ∨ k = 4 ∨ k = 5 ∨ k = 6 := by omega
  unfold bareZ at h
  rcases hkk with rfl | rfl | rfl | rfl | rfl | rfl <;> simp at h <;> simp [usesK, cpF, kR, setU, u8At] <;> simp [h]
theorem encR_eq (r : R) : encR r = r.k :: (usesK r.k).flatMap (fbR r) := by
  unfold encR encJ
  rw [List.take_length]
theorem fields_back {r : R} (hr : r.ok) (hc : checkF r = 0) (rest : List Int) : fieldsF r.k ((usesK r.k).flatMap (fbR r) ++ rest) = ⟨r, rest, 0, false⟩ := by
  obtain ⟨⟨h1, h6⟩, hb, ht⟩ := right_parts hc
  unfold fieldsF rdJ
  rw [List.take_length, fold_back r hr ht, cp_all hb h1 h6]
/-- A right record that was written is read. -/
theorem read_back {r : R} (hr : r.ok) (hc : checkF r = 0) (rest : List Int) : readF (encR r ++ rest) = (r, ((encR r).length : Int), 0) := by
  obtain ⟨⟨h1, h6⟩, hb, ht⟩ := right_parts hc
  rw [encR_eq, List.cons_append]
  unfold readF
  simp only
  rw [if_neg (by omega), fields_back hr hc]
  have he : errF ⟨r, rest, 0, false⟩ = 0 := by simp [errF, hc]
  rw [if_pos he]
  simp only [List.length_cons, List.length_append]
  congr 2
  omega
theorem encR_pos (r : R) : 1 ≤ (encR r).length := by rw [encR_eq]; simp
/-- The records of all bytes of right records. -/
theorem all_back : ∀ (l : List R) (f : Nat) (acc : List R), (∀ r ∈ l, r.ok ∧ checkF r = 0) → (l.flatMap encR).length < f → allG f (l.flatMap encR) acc = (acc ++ l, 0) := by
  intro l
  induction l with
  | nil =>
    intro f acc _ hf
    cases f with
    | zero => exact absurd hf (by simp)
    | succ f => simp [allG]
  | cons r l ih =>
    intro f acc h hf
    obtain ⟨hr, hc⟩ := h r (by simp)
    have hp := encR_pos r
    cases f with
    | zero => exact absurd hf (by simp)
    | succ f =>
      rw [List.flatMap_cons] at hf ⊢
      have hne : ¬ (encR r ++ l.flatMap encR = []) := fun e => by rw [List.append_eq_nil_iff] at e; rw [e.1] at hp; simp at hp
      rw [allG, if_neg hne, read_back hr hc, if_pos rfl]
      simp only [Int.toNat_natCast, List.drop_left]
      rw [List.length_append] at hf
      rw [ih f (acc ++ [r]) (fun q hq => h q (by simp [hq])) (by omega)]
      simp
/-- Right records' bytes tell them apart. -/
theorem enc_inj {a b : R} (ha : a.ok) (hb : b.ok) (hca : checkF a = 0) (hcb : checkF b = 0) (h : encR a = encR b) : a = b := by
  have h1 := read_back ha hca []
  have h2 := read_back hb hcb []
  rw [h] at h1
  rw [h1] at h2
  exact congrArg (·.1) h2
end Go.Proofs.Ytaekpejpcafnkaa.rw
