/-
  Layer 10, plain: what is cut off is not read; what is read is written.
-/
import Derived.Test.YtaekpejpcafnkaaRecQ
import Derived.Test.YtaekpejpcafnkaaRecL
namespace Go.Proofs.Ytaekpejpcafnkaa.rw
open Go.Proofs.Ytaekpejpcafnkaa.ba Go.Proofs.Ytaekpejpcafnkaa.rp Go.Proofs.Ytaekpejpcafnkaa.dp Go.Proofs.Ytaekpejpcafnkaa.wp Go.Proofs.Ytaekpejpcafnkaa.ww
set_option linter.unusedVariables false

theorem rsF_cut : ∀ (f m i : Nat) (acc : Int), 1 ≤ f → i + f = 10 → m < 128 ^ f → (rsF ((smaK f m).dropLast) i acc).2.2 = 4 := by
  intro f
  induction f with
  | zero => intro m i acc h; omega
  | succ f ih =>
    intro m i acc _ hi hm
    by_cases hlt : m < 128
    · rw [smaK, if_pos hlt]; rfl
    · have hf : 1 ≤ f := by
        rcases Nat.eq_zero_or_pos f with h | h
        · subst h; simp at hm; omega
        · exact h
      have hne : smaK f (m / 128) ≠ [] := fun e => by have := smaK_pos f (m / 128) hf; rw [e] at this; simp at this
      rw [smaK, if_neg hlt, List.dropLast_cons_of_ne_nil hne, rsF, if_neg (by omega), if_neg (by omega)]
      exact ih _ _ _ hf (by omega) (by rw [Nat.pow_succ] at hm; omega)
theorem readS_cut (n : Nat) (h : n < 18446744073709551616) : (readS ((smaL n).dropLast)).2.2 = 4 := rsF_cut 10 n 0 0 (by decide) rfl (Nat.lt_of_lt_of_le h (by decide))
theorem smaL_ne (n : Nat) : smaL n ≠ [] := fun e => by have := smaK_pos 10 n (by decide); unfold smaL at e; rw [e] at this; simp at this
theorem num_cut (most : Int) (n : Nat) (h : n < 18446744073709551616) : (tkF 0 (numF most ((smaL n).dropLast)) ((smaL n).dropLast) 0).2.2 = 4 := by
  have := readS_cut n h
  unfold tkF numF
  rw [if_pos rfl, this, if_neg (by decide)]
theorem txt_cut (t : ByteArray) (ht : t.size ≤ 60) : (tkF [] (txtF 60 ((smaL t.size ++ strL t).dropLast)) ((smaL t.size ++ strL t).dropLast) 0).2.2 = 4 := by
  have hl := strL_len t
  by_cases h0 : strL t = []
  · rw [h0, List.append_nil]
    have := readS_cut t.size (by omega)
    unfold tkF txtF
    rw [if_pos rfl, this, if_neg (by decide)]
  · rw [List.dropLast_append_of_ne_nil h0]
    have h := readS_smaL t.size (by omega) (strL t).dropLast
    have hp : 0 < (strL t).length := List.length_pos_iff.2 h0
    unfold tkF txtF
    rw [if_pos rfl, h]
    simp only [if_true]
    rw [if_neg (show ¬ ((60 : Int) < 0) from by decide), if_neg (by omega), if_pos (by simp only [List.length_append, List.length_dropLast]; omega)]
theorem fbR_ne (r : R) (x : Nat × Nat) : fbR r x ≠ [] := by
  unfold fbR
  repeat' split
  · simp
  · simp
  · exact smaL_ne _
  · exact smaL_ne _
  · exact fun e => smaL_ne _ (List.append_eq_nil_iff.1 e).1
theorem rd_cut (r q : R) (x : Nat × Nat) (o : Bool) (hr : r.ok) (ht : r.t.size ≤ 60) : (rdF ⟨q, (fbR r x).dropLast, 0, o⟩ x).e = 4 := by
  unfold rdF fbR
  by_cases h0 : x.1 = 0
  · simp only [h0, if_true, List.dropLast_singleton, fix1_nil]
  by_cases h1 : x.1 = 1
  · simp only [h1, if_true, show ¬ ((1 : Nat) = 0) from by decide, if_false, List.dropLast_singleton, fix1_nil]
  by_cases h2 : x.1 = 2
  · simp only [h2, if_true, show ¬ ((2 : Nat) = 0) from by decide, show ¬ ((2 : Nat) = 1) from by decide, if_false]
    exact num_cut _ _ (by have := hr.v; omega)
  by_cases h3 : x.1 = 3
  · simp only [h3, if_true, show ¬ ((3 : Nat) = 0) from by decide, show ¬ ((3 : Nat) = 1) from by decide, show ¬ ((3 : Nat) = 2) from by decide, if_false]
    exact num_cut _ _ (by have := hr.a; omega)
  · simp only [h0, h1, h2, h3, if_false]
    exact txt_cut _ ht
theorem uses_ne {k : Int} (h1 : 1 ≤ k) (h6 : k ≤ 6) (h3 : k ≠ 3) : usesK k ≠ [] := by
  have hkk : k = 1 ∨ k = 2 ∨ k = 4 ∨ k = 5 ∨ k = 6 := by omega
  rcases hkk with rfl | rfl | rfl | rfl | rfl <;> simp [usesK]
/-- A right record's bytes without the last one: the end is missing. -/
theorem read_cut {r : R} (hr : r.ok) (hc : checkF r = 0) (h3 : r.k ≠ 3) : (readF ((encR r).dropLast)).2.2 = 4 ∧ (encR r).dropLast ≠ [] := by
  obtain ⟨⟨h1, h6⟩, hb, ht⟩ := right_parts hc
  rcases List.eq_nil_or_concat (usesK r.k) with h | ⟨xs, x, hx⟩
  · exact absurd h (uses_ne h1 h6 h3)
  have e : (encR r).dropLast = r.k :: (xs.flatMap (fbR r) ++ (fbR r x).dropLast) := by
    rw [encR_eq, hx, List.concat_eq_append, List.flatMap_append, List.flatMap_singleton, List.dropLast_cons_of_ne_nil (fun e => fbR_ne r x (List.append_eq_nil_iff.1 e).2), List.dropLast_append_of_ne_nil (fbR_ne r x)]
  rw [e]
  refine ⟨?_, by simp⟩
  have hf : (fieldsF r.k (xs.flatMap (fbR r) ++ (fbR r x).dropLast)).e = 4 := by
    unfold fieldsF rdJ
    rw [List.take_length, hx, List.concat_eq_append, List.foldl_append, fold_back r hr ht]
    exact rd_cut r _ x false hr ht
  unfold readF
  simp only
  rw [if_neg (by omega)]
  have he : errF (fieldsF r.k (xs.flatMap (fbR r) ++ (fbR r x).dropLast)) = 4 := by unfold errF; rw [hf]; rfl
  rw [he, if_neg (by decide)]
theorem all_cut (r : R) (hr : r.ok) (hc : checkF r = 0) (h3 : r.k ≠ 3) : ∀ (l : List R) (f : Nat) (acc : List R), (∀ r ∈ l, r.ok ∧ checkF r = 0) → (l.flatMap encR ++ (encR r).dropLast).length < f → allG f (l.flatMap encR ++ (encR r).dropLast) acc = ([], 4) := by
  obtain ⟨hrc, hrn⟩ := read_cut hr hc h3
  intro l
  induction l with
  | nil =>
    intro f acc _ hf
    cases f with
    | zero => exact absurd hf (by simp)
    | succ f =>
      rw [List.flatMap_nil, List.nil_append, allG, if_neg hrn, hrc, if_neg (by decide)]
  | cons q l ih =>
    intro f acc h hf
    obtain ⟨hq, hqc⟩ := h q (by simp)
    have hp := encR_pos q
    cases f with
    | zero => exact absurd hf (by simp)
    | succ f =>
      rw [List.flatMap_cons, List.append_assoc] at hf ⊢
      have hne : ¬ (encR q ++ (l.flatMap encR ++ (encR r).dropLast) = []) := fun e => by rw [List.append_eq_nil_iff] at e; rw [e.1] at hp; simp at hp
      rw [allG, if_neg hne, read_back hq hqc, if_pos rfl]
      simp only [Int.toNat_natCast, List.drop_left]
      rw [List.length_append] at hf
      exact ih f (acc ++ [q]) (fun q hq => h q (by simp [hq])) (by omega)

/-! What is read is written. -/
theorem strL_nums {xs : List Int} (h : ∀ v ∈ xs, 0 ≤ v ∧ v ≤ 255) : strL (strOfNums xs) = xs := by
  unfold strL strOfNums
  simp only [List.map_map]
  conv => rhs; rw [← List.map_id xs]
  refine List.map_congr_left fun v hv => ?_
  have := h v hv
  simp only [Function.comp, id, UInt8.toNat_ofNat']
  omega
theorem tk_e {α : Type} (z : α) (q : α × Int × Int) (l : List Int) (e : Int) (h : (tkF z q l e).2.2 = 0) : e = 0 := by
  unfold tkF at h
  by_cases he : e = 0
  · exact he
  · rw [if_neg he] at h; exact h
theorem rd_e {s : St} {x : Nat × Nat} (h : (rdF s x).e = 0) : s.e = 0 := by
  unfold rdF at h
  repeat' split at h
  all_goals exact tk_e _ _ _ _ h
theorem fold_e : ∀ (xs : List (Nat × Nat)) (s : St), (xs.foldl rdF s).e = 0 → s.e = 0 := by
  intro xs
  induction xs with
  | nil => exact fun s h => h
  | cons x xs ih => exact fun s h => rd_e (ih _ h)
theorem fold_o : ∀ (xs : List (Nat × Nat)) (s : St), (∀ x ∈ xs, x.1 ≠ 1) → (xs.foldl rdF s).o = s.o := by
  intro xs
  induction xs with
  | nil => exact fun s _ => rfl
  | cons x xs ih =>
    intro s h
    rw [List.foldl_cons, ih _ (fun y hy => h y (by simp [hy]))]
    have := h x (by simp)
    unfold rdF
    repeat' split
    all_goals first | rfl | contradiction
/-- The fields that a kind may use. -/
def legit (x : Nat × Nat) : Prop := x = (0, 2) ∨ x = (0, 4) ∨ x = (0, 3) ∨ x = (0, 1) ∨ x = (1, 5) ∨ x = (2, 6) ∨ x = (3, 7) ∨ x = (4, 8)
theorem fb_other {s : St} {x y : Nat × Nat} (hx : legit x) (hy : legit y) (hne : y ≠ x) : fbR (rdF s y).r x = fbR s.r x := by
  rcases hx with rfl | rfl | rfl | rfl | rfl | rfl | rfl | rfl <;> rcases hy with rfl | rfl | rfl | rfl | rfl | rfl | rfl | rfl <;> first | exact absurd rfl hne | rfl
theorem fold_fb {x : Nat × Nat} (hx : legit x) : ∀ (xs : List (Nat × Nat)) (s : St), (∀ y ∈ xs, legit y ∧ y ≠ x) → fbR (xs.foldl rdF s).r x = fbR s.r x := by
  intro xs
  induction xs with
  | nil => exact fun s _ => rfl
  | cons y xs ih =>
    intro s h
    rw [List.foldl_cons, ih _ (fun z hz => h z (by simp [hz]))]
    exact fb_other hx (h y (by simp)).1 (h y (by simp)).2
theorem byte_fwd {l : List Int} (h : (tkF 0 (fixF 1 l) l 0).2.2 = 0) : l = (tkF 0 (fixF 1 l) l 0).1 :: (tkF 0 (fixF 1 l) l 0).2.1 := by
  cases l with
  | nil => rw [fix1_nil] at h; exact absurd h (by decide)
  | cons n l => rw [fix1_cons]
theorem num_fwd {most : Int} {l : List Int} (hB : Bytes l) (h : (tkF 0 (numF most l) l 0).2.2 = 0) : l = smaL (tkF 0 (numF most l) l 0).1.toNat ++ (tkF 0 (numF most l) l 0).2.1 := by
  unfold tkF numF at h ⊢
  rw [if_pos rfl] at h ⊢
  by_cases h0 : (readS l).2.2 = 0
  · rw [if_pos h0] at h ⊢
    by_cases h1 : most < (readS l).1
    · rw [if_pos h1] at h; exact absurd (show (5 : Int) = 0 from h) (by decide)
    · rw [if_neg h1]
      obtain ⟨N, e1, e2, e3, e4, e5⟩ := readS_back l hB _ _ (show readS l = ((readS l).1, (readS l).2.1, 0) from by rw [← h0])
      simp only
      rw [e1, Int.toNat_natCast, e5, List.take_append_drop]
  · rw [if_neg h0] at h; exact absurd h h0
theorem txt_fwd {l : List Int} (hB : Bytes l) (h : (tkF [] (txtF 60 l) l 0).2.2 = 0) : l = smaL (strOfNums (tkF [] (txtF 60 l) l 0).1).size ++ strL (strOfNums (tkF [] (txtF 60 l) l 0).1) ++ (tkF [] (txtF 60 l) l 0).2.1 := by
  unfold tkF txtF at h ⊢
  rw [if_pos rfl] at h ⊢
  rw [if_neg (show ¬ ((60 : Int) < 0) from by decide)] at h ⊢
  by_cases h0 : (readS l).2.2 = 0
  · rw [if_pos h0] at h ⊢
    by_cases h1 : (60 : Int) < (readS l).1
    · rw [if_pos h1] at h; exact absurd (show (2 : Int) = 0 from h) (by decide)
    · rw [if_neg h1] at h ⊢
      by_cases h2 : (l.length : Int) - (readS l).2.1 < (readS l).1
      · rw [if_pos h2] at h; exact absurd (show (4 : Int) = 0 from h) (by decide)
      · rw [if_neg h2]
        obtain ⟨N, e1, e2, e3, e4, e5⟩ := readS_back l hB _ _ (show readS l = ((readS l).1, (readS l).2.1, 0) from by rw [← h0])
        simp only
        rw [e1] at h2 ⊢
        obtain ⟨K, hK⟩ := Int.eq_ofNat_of_zero_le (show 0 ≤ (readS l).2.1 by omega)
        rw [hK] at e3 e4 e5 h2 ⊢
        rw [Int.toNat_natCast] at e5 ⊢
        rw [Int.toNat_natCast, show (((K : Nat) : Int) + ((N : Nat) : Int)).toNat = K + N from by omega]
        have hBt : ∀ v ∈ (l.drop K).take N, 0 ≤ v ∧ v ≤ 255 := fun v hv => hB v (List.mem_of_mem_drop (List.mem_of_mem_take hv))
        rw [strL_nums hBt, strOfNums_size, List.length_take, List.length_drop, Nat.min_eq_left (by omega), e5, List.append_assoc, ← List.drop_drop, List.take_append_drop, List.take_append_drop]
  · rw [if_neg h0] at h; exact absurd h h0
theorem rd_fwd {s : St} {x : Nat × Nat} (hx : legit x) (hB : Bytes s.l) (he : (rdF s x).e = 0) (ho : x.1 = 1 → (rdF s x).o = false) : s.l = fbR (rdF s x).r x ++ (rdF s x).l := by
  have h0 := rd_e he
  obtain ⟨r, l, e, o⟩ := s
  simp only at h0 hB ⊢
  subst h0
  rcases hx with rfl | rfl | rfl | rfl | rfl | rfl | rfl | rfl
  · exact byte_fwd he
  · exact byte_fwd he
  · exact byte_fwd he
  · exact byte_fwd he
  · have h1 := byte_fwd he
    have h2 := ho rfl
    have e1 : (rdF ⟨r, l, 0, o⟩ (1, 5)).o = decide (1 < (tkF 0 (fixF 1 l) l 0).1) := rfl
    rw [e1, decide_eq_false_iff_not] at h2
    have h1' : l = (tkF 0 (fixF 1 l) l 0).1 :: (tkF 0 (fixF 1 l) l 0).2.1 := h1
    have h3 : 0 ≤ (tkF 0 (fixF 1 l) l 0).1 := (hB (tkF 0 (fixF 1 l) l 0).1 (by
      cases l with
      | nil => exact absurd h1' (by simp)
      | cons n l => rw [fix1_cons]; simp)).1
    have e2 : fbR (rdF ⟨r, l, 0, o⟩ (1, 5)).r (1, 5) = [gB (decide ((tkF 0 (fixF 1 l) l 0).1 = 1))] := rfl
    have e3 : (rdF ⟨r, l, 0, o⟩ (1, 5)).l = (tkF 0 (fixF 1 l) l 0).2.1 := rfl
    rw [e2, e3]
    have e4 : gB (decide ((tkF 0 (fixF 1 l) l 0).1 = 1)) = (tkF 0 (fixF 1 l) l 0).1 := by
      unfold gB
      by_cases h : (tkF 0 (fixF 1 l) l 0).1 = 1
      · simp [h]
      · simp [h]; omega
    rw [e4]
    exact h1
  · exact num_fwd hB he
  · exact num_fwd hB he
  · exact txt_fwd hB he
theorem fold_fwd : ∀ (xs : List (Nat × Nat)) (s : St), (∀ x ∈ xs, legit x) → xs.Pairwise (fun x y => y ≠ x) → Bytes s.l → (xs.foldl rdF s).e = 0 → (xs.foldl rdF s).o = false → s.l = xs.flatMap (fbR (xs.foldl rdF s).r) ++ (xs.foldl rdF s).l := by
  intro xs
  induction xs with
  | nil => exact fun s _ _ _ _ _ => rfl
  | cons x xs ih =>
    intro s hl hp hB he ho
    rw [List.pairwise_cons] at hp
    rw [List.foldl_cons] at he ho ⊢
    have hx := hl x (by simp)
    obtain ⟨n, hn⟩ := rdF_drop s x
    have h1 := rd_fwd hx hB (fold_e xs _ he) (fun h => by
      rw [← fold_o xs (rdF s x) (fun y hy e => by
        have hy1 := hl y (by simp [hy])
        have hne := hp.1 y hy
        rcases hx with rfl | rfl | rfl | rfl | rfl | rfl | rfl | rfl <;> first | exact absurd h (by decide) | skip
        rcases hy1 with rfl | rfl | rfl | rfl | rfl | rfl | rfl | rfl <;> first | exact absurd e (by decide) | exact absurd rfl hne)]
      exact ho)
    have h2 := ih (rdF s x) (fun y hy => hl y (by simp [hy])) hp.2 (by rw [hn]; exact bytes_drop hB n) he ho
    rw [List.flatMap_cons, fold_fb hx xs (rdF s x) (fun y hy => ⟨hl y (by simp [hy]), hp.1 y hy⟩), List.append_assoc, ← h2]
    exact h1
theorem uses_legit (k : Int) : (∀ x ∈ usesK k, legit x) ∧ (usesK k).Pairwise (fun x y => y ≠ x) := by
  refine ⟨fun x hx => ?_, ?_⟩
  · obtain ⟨j, hj⟩ := List.mem_iff_getElem?.1 hx
    exact let_ways k j x hj
  · unfold usesK
    repeat' split
    all_goals simp
/-- What is read is right, and its bytes are those. -/
theorem read_fwd {l : List Int} (hB : Bytes l) (h : (readF l).2.2 = 0) : checkF (readF l).1 = 0 ∧ encR (readF l).1 = l.take (readF l).2.1.toNat := by
  cases l with
  | nil => exact absurd h (by decide)
  | cons k l =>
    unfold readF at h ⊢
    simp only at h ⊢
    split at h
    · exact absurd h (by decide)
    · next hk =>
      rw [if_neg hk]
      split at h
      · next he =>
        rw [if_pos he]
        simp only
        have hB1 : Bytes l := fun v hv => hB v (List.mem_cons_of_mem _ hv)
        obtain ⟨hok, hkk⟩ := rdJ_ok (s := ⟨kR k, l, 0, false⟩) (kR_ok k (by omega) (by omega)) hB1 (usesK k).length
        have hkk' : (fieldsF k l).r.k = k := hkk
        have hes : (fieldsF k l).e = 0 ∧ (fieldsF k l).o = false ∧ checkF (fieldsF k l).r = 0 := by
          rcases err_ways (fieldsF k l) with ⟨a, b⟩ | ⟨a, b, c⟩ | ⟨a, b, c, d⟩ | ⟨a, b, c, d⟩
          · rw [b] at he; exact absurd he a
          · rw [c] at he; exact absurd he (by decide)
          · rw [d] at he; exact absurd he c
          · exact ⟨a, b, c⟩
        refine ⟨hes.2.2, ?_⟩
        have hfw := fold_fwd (usesK k) ⟨kR k, l, 0, false⟩ (uses_legit k).1 (uses_legit k).2 hB1 (by have := hes.1; unfold fieldsF rdJ at this; rwa [List.take_length] at this) (by have := hes.2.1; unfold fieldsF rdJ at this; rwa [List.take_length] at this)
        have ef : (usesK k).foldl rdF ⟨kR k, l, 0, false⟩ = fieldsF k l := by unfold fieldsF rdJ; rw [List.take_length]
        rw [ef] at hfw
        simp only at hfw
        rw [encR_eq, hkk']
        generalize (fieldsF k l).r = r at hfw ⊢
        generalize (fieldsF k l).l = y at hfw ⊢
        have hlen : (((k :: l).length : Int) - (y.length : Int)).toNat = ((usesK k).flatMap (fbR r)).length + 1 := by
          rw [hfw]
          simp only [List.length_cons, List.length_append]
          omega
        rw [hlen, List.take_succ_cons, hfw, List.take_left]
      · next he => simp only at h; exact absurd h he
end Go.Proofs.Ytaekpejpcafnkaa.rw
