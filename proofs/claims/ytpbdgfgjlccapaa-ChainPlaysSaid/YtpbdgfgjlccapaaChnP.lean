/-
  Layer 12, plain laws: what is seen behind trimming, how many are left, and that trimming again takes nothing.
-/
import Derived.Test.YtpbdgfgjlccapaaChnI
namespace Go.Proofs.Ytpbdgfgjlccapaa.cw
open Go.Proofs.Ytpbdgfgjlccapaa.ba Go.Proofs.Ytpbdgfgjlccapaa.rp Go.Proofs.Ytpbdgfgjlccapaa.cp
set_option linter.unusedVariables false

/-- The newest one up to a time. -/
def vis (L : List V) (t : Int) : Option V := (L.filter fun v => decide (v.a ≤ t)).getLast?
/-- What is seen of it. -/
def atV : Option V → R × Bool
  | none => (zeroR, false)
  | some v => if v.d then (zeroR, false) else (v.r, true)
theorem vis_snoc (M : List V) (v : V) (t : Int) : vis (M ++ [v]) t = if v.a ≤ t then some v else vis M t := by
  unfold vis
  rw [List.filter_append]
  by_cases h : v.a ≤ t <;> simp [h]
theorem at_some {L : List V} {k : Nat} (h : k < L.length) : ∃ v, L[k]? = some v := ⟨_, List.getElem?_eq_getElem h⟩
theorem vis_take (L : List V) (t : Int) : ∀ k, k ≤ L.length → vis (L.take k) t = if seenK L t k < 0 then none else L[(seenK L t k).toNat]?
  | 0, _ => by simp [vis, seenK]
  | k + 1, hk => by
    obtain ⟨v, hv⟩ := at_some (show k < L.length by omega)
    have ih := vis_take L t k (by omega)
    rw [take_snoc hv, vis_snoc]
    simp only [seenK, hv]
    by_cases h : v.a ≤ t
    · rw [if_pos h, if_pos h, if_neg (by omega), Int.toNat_natCast, hv]
    · rw [if_neg h, if_neg h]
      exact ih
theorem vis_all (L : List V) (t : Int) : vis L t = if seenK L t L.length < 0 then none else L[(seenK L t L.length).toNat]? := by
  have := vis_take L t L.length (Nat.le_refl _)
  rwa [List.take_length] at this
theorem atF_vis (L : List V) (t : Int) : atF L t = atV (vis L t) := by
  rw [vis_all]
  unfold atF
  split
  · rfl
  · cases L[(seenK L t L.length).toNat]? <;> rfl
theorem vis_keep (L : List V) (f : Nat → Bool) (t : Int) : ∀ k, k ≤ L.length → (∀ m : Nat, seenK L t k = (m : Int) → f m = true) → vis (keepK L f k) t = vis (L.take k) t
  | 0, _, _ => by simp [keepK]
  | k + 1, hk, hf => by
    obtain ⟨v, hv⟩ := at_some (show k < L.length by omega)
    rw [keepK_step L f k v hv, take_snoc hv, vis_snoc]
    by_cases h : v.a ≤ t
    · have hk2 : f k = true := hf k (by simp only [seenK, hv]; rw [if_pos h])
      rw [if_pos hk2, vis_snoc, if_pos h, if_pos h]
    · have hs : seenK L t (k + 1) = seenK L t k := by simp only [seenK, hv]; rw [if_neg h]
      have ih := vis_keep L f t k (by omega) (fun m hm => hf m (by rw [hs]; exact hm))
      rw [if_neg h]
      cases f k with
      | true => rw [if_pos rfl, vis_snoc, if_neg h]; exact ih
      | false => rw [if_neg (by decide)]; exact ih
theorem at_dropWhile (q : V → Bool) (hq : ∀ v, q v = true → v.d = true) (t : Int) : ∀ M, atV (vis (M.dropWhile q) t) = atV (vis M t)
  | [] => rfl
  | v :: M => by
    rw [List.dropWhile_cons]
    cases h : q v with
    | false => rfl
    | true =>
      have ih := at_dropWhile q hq t M
      rw [if_pos rfl, ih]
      unfold vis
      rw [List.filter_cons]
      split
      · cases M.filter (fun v => decide (v.a ≤ t)) with
        | nil => simp [atV, hq v h]
        | cons x xs => rw [List.getLast?_cons_cons]
      · rfl
theorem idle_dead (P : List Int) (v : V) (h : idleF P v = true) : v.d = true := by
  unfold idleF at h
  simp only [Bool.and_eq_true] at h
  exact h.1
theorem last_at {L : List V} {k : Nat} {v : V} (hk : k + 1 = L.length) (hv : L[k]? = some v) : L.getLast? = some v := by
  rw [List.getLast?_eq_getElem?, show L.length - 1 = k from by omega, hv]
theorem newest_at {L : List V} {k : Nat} {v : V} (hk : k + 1 = L.length) (hv : L[k]? = some v) : newestF L = v.a := by
  unfold newestF
  rw [last_at hk hv]
  rfl
theorem seen_late {L : List V} {t : Int} (h : newestF L ≤ t) {m : Nat} (hm : seenK L t L.length = (m : Int)) : m + 1 = L.length := by
  rcases Nat.eq_zero_or_pos L.length with h0 | h0
  · rw [h0] at hm
    simp [seenK] at hm
  · obtain ⟨k, hk⟩ : ∃ k, k + 1 = L.length := ⟨L.length - 1, by omega⟩
    obtain ⟨v, hv⟩ := at_some (show k < L.length by omega)
    rw [newest_at hk hv] at h
    rw [← hk] at hm
    simp only [seenK, hv] at hm
    rw [if_pos h] at hm
    omega
theorem need_seen {L : List V} {P : List Int} {p : Int} (hp : p ∈ P) {m : Nat} (hm : seenK L p L.length = (m : Int)) : needF L P m = true := by
  unfold needF
  have : P.any (fun p => seenK L p L.length == (m : Int)) = true := List.any_eq_true.2 ⟨p, hp, by rw [hm]; simp⟩
  rw [this, Bool.or_true]
theorem need_last {L : List V} {P : List Int} {m : Nat} (hm : m + 1 = L.length) : needF L P m = true := by
  unfold needF
  simp [hm]
/-- At each pin, and from the newest time on, the same is seen. -/
theorem trim_at (L : List V) (P : List Int) (t : Int) (h : t ∈ P ∨ newestF L ≤ t) : atF (trimF L P) t = atF L t := by
  rw [atF_vis, atF_vis]
  unfold trimF
  rw [at_dropWhile _ (idle_dead P), vis_keep _ _ _ _ (Nat.le_refl _) (fun m hm => h.elim (fun hp => need_seen hp hm) (fun hl => need_last (seen_late hl hm))), List.take_length]
theorem keep_last (L : List V) (P : List Int) : (keepK L (needF L P) L.length).getLast? = L.getLast? := by
  rcases Nat.eq_zero_or_pos L.length with h0 | h0
  · rw [List.length_eq_zero_iff.1 h0]
    rfl
  · obtain ⟨k, hk⟩ : ∃ k, k + 1 = L.length := ⟨L.length - 1, by omega⟩
    obtain ⟨v, hv⟩ := at_some (show k < L.length by omega)
    rw [last_at hk hv]
    rw [← hk, keepK_step L _ k v hv, if_pos (need_last hk)]
    simp
theorem drop_last (q : V → Bool) : ∀ M : List V, (M.dropWhile q).getLast? = M.getLast? ∨ (M.dropWhile q = [] ∧ ∀ v ∈ M, q v = true)
  | [] => .inl rfl
  | v :: M => by
    rw [List.dropWhile_cons]
    cases h : q v with
    | false => exact .inl rfl
    | true =>
      rw [if_pos rfl]
      rcases drop_last q M with h1 | ⟨h1, h2⟩
      · cases M with
        | nil => exact .inr ⟨rfl, fun x hx => by simp at hx; subst hx; exact h⟩
        | cons x M => exact .inl (by rw [h1, List.getLast?_cons_cons])
      · exact .inr ⟨h1, fun x hx => by rcases List.mem_cons.1 hx with rfl | hx; exact h; exact h2 x hx⟩
theorem trim_last (L : List V) (P : List Int) : (trimF L P).getLast? = L.getLast? ∨ (trimF L P = [] ∧ ∀ v, L.getLast? = some v → idleF P v = true) := by
  unfold trimF
  rcases drop_last (idleF P) (keepK L (needF L P) L.length) with h | ⟨h1, h2⟩
  · exact .inl (by rw [h, keep_last])
  · refine .inr ⟨h1, fun v hv => h2 v ?_⟩
    rw [← keep_last L P] at hv
    exact List.mem_of_getLast? hv
theorem trim_live (L : List V) (P : List Int) : liveF (trimF L P) = liveF L := by
  rcases trim_last L P with h | ⟨h1, h2⟩
  · unfold liveF
    rw [h]
  · rw [h1]
    unfold liveF
    cases hl : L.getLast? with
    | none => rfl
    | some v =>
      have := idle_dead P v (h2 v hl)
      simp [this]
theorem trim_newest (L : List V) (P : List Int) (p : Int) (hp : p ∈ P) (h0 : 0 ≤ p) : decide (p < newestF (trimF L P)) = decide (p < newestF L) := by
  rcases trim_last L P with h | ⟨h1, h2⟩
  · unfold newestF
    rw [h]
  · rw [h1]
    unfold newestF
    cases hl : L.getLast? with
    | none => rfl
    | some v =>
      have := h2 v hl
      unfold idleF at this
      simp only [Bool.and_eq_true, Bool.not_eq_true', List.any_eq_false] at this
      have := this.2 p hp
      simp at this
      show decide (p < 0) = decide (p < v.a)
      rw [Bool.eq_iff_iff, decide_eq_true_eq, decide_eq_true_eq]
      omega
/-- Of how many unlike pins are there among the first k? -/
def unl (P : List Int) : Nat → Nat
  | 0 => 0
  | k + 1 => match P[k]? with
    | some p => if p ∈ P.take k then unl P k else unl P k + 1
    | none => unl P k
theorem keep_one (L : List V) (f : Nat → Bool) (x : Int) : ∀ k, (keepK L (fun j => f j || (x == (j : Int))) k).length ≤ (keepK L f k).length + (if 0 ≤ x ∧ x < (k : Int) then 1 else 0)
  | 0 => by simp [keepK]
  | k + 1 => by
    have ih := keep_one L f x k
    cases hv : L[k]? with
    | none =>
      have e1 : keepK L (fun j => f j || (x == (j : Int))) (k + 1) = keepK L (fun j => f j || (x == (j : Int))) k := by simp only [keepK, hv]
      have e2 : keepK L f (k + 1) = keepK L f k := by simp only [keepK, hv]
      rw [e1, e2]
      split at ih <;> split <;> omega
    | some v =>
      rw [keepK_step _ _ _ _ hv, keepK_step _ _ _ _ hv]
      by_cases hx : x = (k : Int)
      · rw [if_neg (by omega)] at ih
        rw [if_pos (show 0 ≤ x ∧ x < ((k + 1 : Nat) : Int) by omega)]
        split <;> split <;> simp <;> omega
      · have hb : (x == (k : Int)) = false := by rw [beq_eq_false_iff_ne]; exact hx
        simp only [hb, Bool.or_false]
        cases f k with
        | true =>
          simp only [if_true, List.length_append, List.length_singleton]
          split at ih <;> split <;> omega
        | false =>
          simp only [Bool.false_eq_true, if_false]
          split at ih <;> split <;> omega
theorem keep_one' (L : List V) (f : Nat → Bool) (x : Int) (k : Nat) : (keepK L (fun j => f j || (x == (j : Int))) k).length ≤ (keepK L f k).length + 1 := by
  have := keep_one L f x k
  split at this <;> omega
theorem keep_none (L : List V) : ∀ k, keepK L (fun _ => false) k = []
  | 0 => rfl
  | k + 1 => by
    have := keep_none L k
    unfold keepK
    split
    · rw [if_neg (by decide)]; exact this
    · exact this
theorem keep_unl (L : List V) (P : List Int) : ∀ k, k ≤ P.length → (keepK L (fun j => decide (j + 1 = L.length) || (P.take k).any fun p => seenK L p L.length == (j : Int)) L.length).length ≤ unl P k + 1
  | 0, _ => by
    have h := keep_one' L (fun _ => false) ((L.length : Int) - 1) L.length
    rw [keep_none] at h
    refine Nat.le_trans (Nat.le_of_eq ?_) h
    refine congrArg List.length (keepK_congr L _ _ L.length L.length (Nat.le_refl _) fun j hj => ?_)
    simp only [List.take_zero, List.any_nil, Bool.or_false, Bool.false_or]
    rw [Bool.eq_iff_iff]
    simp
    omega
  | k + 1, hk => by
    have ih := keep_unl L P k (by omega)
    obtain ⟨p, hp⟩ : ∃ p, P[k]? = some p := ⟨_, List.getElem?_eq_getElem (by omega)⟩
    have hst : keepK L (fun j => decide (j + 1 = L.length) || (P.take (k + 1)).any fun p => seenK L p L.length == (j : Int)) L.length = keepK L (fun j => (decide (j + 1 = L.length) || (P.take k).any fun p => seenK L p L.length == (j : Int)) || (seenK L p L.length == (j : Int))) L.length :=
      keepK_congr L _ _ L.length L.length (Nat.le_refl _) fun j hj => need_step hp j
    rw [hst]
    simp only [unl, hp]
    by_cases hm : p ∈ P.take k
    · rw [if_pos hm]
      refine Nat.le_trans (Nat.le_of_eq ?_) ih
      refine congrArg List.length (keepK_congr L _ _ L.length L.length (Nat.le_refl _) fun j hj => ?_)
      cases hs : (seenK L p L.length == (j : Int)) with
      | false => rw [Bool.or_false]
      | true =>
        have : (P.take k).any (fun p => seenK L p L.length == (j : Int)) = true := List.any_eq_true.2 ⟨p, hm, hs⟩
        rw [this]
        simp
    · rw [if_neg hm]
      have := keep_one' L (fun j => decide (j + 1 = L.length) || (P.take k).any fun p => seenK L p L.length == (j : Int)) (seenK L p L.length) L.length
      exact Nat.le_trans this (by omega)
theorem dropWhile_le (q : V → Bool) (M : List V) : (M.dropWhile q).length ≤ M.length := (List.dropWhile_sublist q).length_le
/-- At most one is left for each unlike pin, and one more. -/
theorem trim_few (L : List V) (P : List Int) : (trimF L P).length ≤ unl P P.length + 1 := by
  unfold trimF
  refine Nat.le_trans (dropWhile_le _ _) ?_
  have := keep_unl L P P.length (Nat.le_refl _)
  rw [List.take_length] at this
  exact this
theorem trim_le (L : List V) (P : List Int) : (trimF L P).length ≤ L.length := Nat.le_trans (dropWhile_le _ _) (keepK_len _ _ _)
/-- Without pins the newest one alone is left, if it isn't dead. -/
theorem trim_nopin (L : List V) : (trimF L []).length = if liveF L = true then 1 else 0 := by
  rcases Nat.eq_zero_or_pos L.length with h0 | h0
  · rw [List.length_eq_zero_iff.1 h0]
    rfl
  · obtain ⟨k, hk⟩ : ∃ k, k + 1 = L.length := ⟨L.length - 1, by omega⟩
    obtain ⟨v, hv⟩ := at_some (show k < L.length by omega)
    have h1 : keepK L (needF L []) k = [] := by
      rw [← keep_none L k]
      refine keepK_congr L _ _ k k (Nat.le_refl _) fun j hj => ?_
      unfold needF
      simp
      omega
    have h2 : keepK L (needF L []) L.length = [v] := by rw [← hk, keepK_step _ _ _ _ hv, h1, if_pos (need_last hk)]; rfl
    have h3 : liveF L = !v.d := by unfold liveF; rw [last_at hk hv]; rfl
    unfold trimF
    rw [h2, h3, List.dropWhile_cons]
    cases hd : v.d <;> simp [idleF, hd]

/-- The times grow, and are above 0. -/
def Inc (L : List V) : Prop := L.Pairwise (fun x y => x.a < y.a) ∧ ∀ v ∈ L, 0 < v.a
theorem inc_nil : Inc [] := ⟨List.Pairwise.nil, by simp⟩
theorem newest_ge (L : List V) (h : Inc L) : 0 ≤ newestF L ∧ ∀ v ∈ L, v.a ≤ newestF L := by
  rcases Nat.eq_zero_or_pos L.length with h0 | h0
  · rw [List.length_eq_zero_iff.1 h0]
    exact ⟨Int.le_refl _, by simp⟩
  · obtain ⟨k, hk⟩ : ∃ k, k + 1 = L.length := ⟨L.length - 1, by omega⟩
    obtain ⟨v, hv⟩ := at_some (show k < L.length by omega)
    rw [newest_at hk hv]
    obtain ⟨h1, h2⟩ := List.getElem?_eq_some_iff.1 hv
    refine ⟨by have := h.2 v (List.mem_of_getElem? hv); omega, fun u hu => ?_⟩
    obtain ⟨j, hj, rfl⟩ := List.mem_iff_getElem.1 hu
    rcases Nat.lt_or_ge j k with hjk | hjk
    · have := List.pairwise_iff_getElem.1 h.1 j k hj h1 hjk
      rw [h2] at this
      omega
    · have : j = k := by omega
      subst this
      rw [h2]
      exact Int.le_refl _
theorem inc_snoc {L : List V} {v : V} (h : Inc L) (hv : newestF L < v.a) : Inc (L ++ [v]) := by
  have hg := newest_ge L h
  refine ⟨List.pairwise_append.2 ⟨h.1, List.pairwise_singleton _ _, fun x hx y hy => ?_⟩, fun u hu => ?_⟩
  · simp at hy
    subst hy
    have := hg.2 x hx
    omega
  · rcases List.mem_append.1 hu with h1 | h1
    · exact h.2 u h1
    · simp at h1
      subst h1
      have := hg.1
      omega
theorem put1_new {L : List V} {v : V} (h : put1 L v = 0) : newestF L < v.a := by
  unfold put1 at h
  split at h
  · contradiction
  · split at h
    · cases h
    · omega
theorem inc_puts : ∀ (X L : List V), Inc L → Inc (puts L X).1
  | [], L, h => h
  | v :: X, L, h => by
    unfold puts
    split
    · exact h
    · rename_i hp
      exact inc_puts X (L ++ [v]) (inc_snoc h (put1_new (by simpa using hp)))
theorem inc_sub {L M : List V} (h : Inc L) (hs : M.Sublist L) : Inc M := ⟨h.1.sublist hs, fun v hv => h.2 v (hs.subset hv)⟩
theorem inc_inj {L : List V} (h : Inc L) {i j : Nat} {u v : V} (hu : L[i]? = some u) (hv : L[j]? = some v) (e : u.a = v.a) : i = j := by
  obtain ⟨h1, rfl⟩ := List.getElem?_eq_some_iff.1 hu
  obtain ⟨h2, rfl⟩ := List.getElem?_eq_some_iff.1 hv
  rcases Nat.lt_trichotomy i j with hlt | he | hlt
  · have := List.pairwise_iff_getElem.1 h.1 i j h1 h2 hlt
    omega
  · exact he
  · have := List.pairwise_iff_getElem.1 h.1 j i h2 h1 hlt
    omega
/-- Is one needed, said by its time? -/
def needA (L : List V) (P : List Int) (v : V) : Bool := decide (v.a = newestF L) || P.any fun p => decide ((vis L p).map (·.a) = some v.a)
theorem keep_filter (L : List V) (f : Nat → Bool) (g : V → Bool) (h : ∀ j v, L[j]? = some v → f j = g v) : ∀ k, k ≤ L.length → keepK L f k = (L.take k).filter g
  | 0, _ => by simp [keepK]
  | k + 1, hk => by
    obtain ⟨v, hv⟩ := at_some (show k < L.length by omega)
    rw [keepK_step _ _ _ _ hv, take_snoc hv, List.filter_append, keep_filter L f g h k (by omega), h k v hv]
    cases hg : g v with
    | true => rw [if_pos rfl, List.filter_cons_of_pos hg]; rfl
    | false => rw [if_neg (by decide), List.filter_cons_of_neg (by simp [hg])]; simp
theorem need_A {L : List V} (hI : Inc L) (P : List Int) (j : Nat) (v : V) (hv : L[j]? = some v) : needF L P j = needA L P v := by
  have hj : j < L.length := (List.getElem?_eq_some_iff.1 hv).1
  unfold needF needA
  congr 1
  · rw [Bool.eq_iff_iff, decide_eq_true_eq, decide_eq_true_eq]
    refine ⟨fun e => (newest_at e hv).symm, fun e => ?_⟩
    obtain ⟨k, hk⟩ : ∃ k, k + 1 = L.length := ⟨L.length - 1, by omega⟩
    obtain ⟨u, hu⟩ := at_some (show k < L.length by omega)
    rw [newest_at hk hu] at e
    rw [inc_inj hI hv hu e, hk]
  · congr 1
    funext p
    rw [Bool.eq_iff_iff, beq_iff_eq, decide_eq_true_eq, vis_all]
    constructor
    · intro e
      rw [e, if_neg (by omega), Int.toNat_natCast, hv]
      rfl
    · intro e
      split at e
      · cases e
      · rename_i hn
        cases hu : L[(seenK L p L.length).toNat]? with
        | none => rw [hu] at e; cases e
        | some u =>
          rw [hu] at e
          simp at e
          have := inc_inj hI hu hv e
          omega
theorem trim_filter {L : List V} (hI : Inc L) (P : List Int) : trimF L P = (L.filter (needA L P)).dropWhile (idleF P) := by
  unfold trimF
  rw [keep_filter L _ _ (need_A hI P) L.length (Nat.le_refl _), List.take_length]
theorem dropWhile_twice (q : V → Bool) : ∀ M : List V, (M.dropWhile q).dropWhile q = M.dropWhile q
  | [] => rfl
  | v :: M => by
    rw [List.dropWhile_cons]
    cases h : q v with
    | true => rw [if_pos rfl]; exact dropWhile_twice q M
    | false => rw [if_neg (by decide), List.dropWhile_cons, h, if_neg (by decide)]
theorem vis_drop (q : V → Bool) (M : List V) (t : Int) (v : V) (hv : v ∈ M.dropWhile q) (ht : v.a ≤ t) : vis (M.dropWhile q) t = vis M t := by
  have e : M = M.takeWhile q ++ M.dropWhile q := (List.takeWhile_append_dropWhile).symm
  have hm : v ∈ (M.dropWhile q).filter (fun v => decide (v.a ≤ t)) := List.mem_filter.2 ⟨hv, by simpa using ht⟩
  unfold vis
  conv => rhs; rw [e]
  rw [List.filter_append, List.getLast?_append]
  cases hl : ((M.dropWhile q).filter (fun v => decide (v.a ≤ t))).getLast? with
  | none => rw [List.getLast?_eq_none_iff] at hl; rw [hl] at hm; simp at hm
  | some x => rfl
theorem vis_mem {L : List V} {t : Int} {v : V} (h : vis L t = some v) : v ∈ L ∧ v.a ≤ t := by
  have := List.mem_of_getLast? h
  have := List.mem_filter.1 this
  exact ⟨this.1, by simpa using this.2⟩
/-- Trimmed again nothing goes. -/
theorem trim_twice {L : List V} (hI : Inc L) (P : List Int) : trimF (trimF L P) P = trimF L P := by
  have hT := trim_filter hI P
  have hsub : (trimF L P).Sublist L := by rw [hT]; exact (List.dropWhile_sublist _).trans List.filter_sublist
  have hIT := inc_sub hI hsub
  have hall : (trimF L P).filter (needA (trimF L P) P) = trimF L P := by
    refine List.filter_eq_self.2 fun v hv => ?_
    have hv2 : v ∈ L.filter (needA L P) := by rw [hT] at hv; exact (List.dropWhile_sublist _).subset hv
    have hn := (List.mem_filter.1 hv2).2
    unfold needA at hn ⊢
    rw [Bool.or_eq_true] at hn ⊢
    rcases hn with hn | hn
    · left
      rw [decide_eq_true_eq] at hn ⊢
      rcases trim_last L P with h | ⟨h1, _⟩
      · rw [hn]; unfold newestF; rw [h]
      · rw [h1] at hv; simp at hv
    · right
      obtain ⟨p, hp, hq⟩ := List.any_eq_true.1 hn
      rw [decide_eq_true_eq] at hq
      refine List.any_eq_true.2 ⟨p, hp, ?_⟩
      rw [decide_eq_true_eq]
      have hkv : vis (keepK L (needF L P) L.length) p = vis L p := by
        rw [vis_keep _ _ _ _ (Nat.le_refl _) (fun m hm => need_seen hp hm), List.take_length]
      cases hu : vis L p with
      | none => rw [hu] at hq; cases hq
      | some u =>
        rw [hu] at hq
        simp at hq
        have hup := (vis_mem hu).2
        have : vis (trimF L P) p = vis L p := by
          rw [← hkv]
          exact vis_drop _ _ p v hv (by omega)
        rw [this, hu]
        simp [hq]
  rw [trim_filter hIT P, hall]
  have : (trimF L P).dropWhile (idleF P) = trimF L P := dropWhile_twice _ _
  exact this
end Go.Proofs.Ytpbdgfgjlccapaa.cw
