/-
  A long region in a known order, over a frame that is a variable: what is known of its slots stands in a list. For whatever program.
-/
import Derived.Test.YtpbdgfgjlccapaaRegCut
namespace Go.Proofs.Ytpbdgfgjlccapaa.sg
open Go.RowKit
set_option maxRecDepth 8000
set_option linter.unusedVariables false

/-- What is known of a slot. -/
def look : List (Nat × Value) → Nat → Option Value
  | [], _ => none
  | (d, v) :: s, t => cond (Nat.beq t d) (some v) (look s t)
/-- A frame of so many slots, of which these are known. -/
structure Holds (N : Nat) (s : List (Nat × Value)) (a : Act) : Prop where
  size : a.tmps.size = N
  defers : a.defers = []
  at_ : ∀ t u, look s t = some u → a.tmps[t]? = some u
/-- Is an operation wanted, as far as the slots are known? -/
def gd (ops : Array Oper) (s : List (Nat × Value)) (o : Oper) : Option Bool :=
  match o.guard with
  | none => some true
  | some (j, want) =>
    match (ops[j]?).bind (·.dst) with
    | none => none
    | some dj =>
      match look s dj with
      | some (.bool b) => some (b == want)
      | some (.tuple _) => some false
      | _ => none

section
variable {P : Program} {ops : Array Oper} {Q : Exit → Act → World → Prop} {w : World} {o : Oper} {rest : List Oper} {a : Act} {N : Nat} {s : List (Nat × Value)} {d : Nat}

theorem gd_wanted {b : Bool} (H : Holds N s a) (h : gd ops s o = some b) : Region.wanted o (yielded ops a.tmps) = b := by
  unfold gd at h
  unfold Region.wanted
  cases hg : o.guard with
  | none => rw [hg] at h; simpa using h
  | some jw =>
    obtain ⟨j, want⟩ := jw
    rw [hg] at h
    simp only at h ⊢
    cases hj : (ops[j]?).bind (·.dst) with
    | none => rw [hj] at h; cases h
    | some dj =>
      rw [hj] at h
      simp only at h
      cases hl : look s dj with
      | none => rw [hl] at h; cases h
      | some v =>
        rw [hl] at h
        have hv := H.at_ _ _ hl
        have hy : yielded ops a.tmps j = match v with | .bool b => some b | _ => none := by
          unfold yielded
          rw [hj]
          simp only [Option.bind_some, hv]
          cases v <;> rfl
        rw [hy]
        cases v <;> simp at h ⊢ <;> first | exact h | (rw [← h]; cases want <;> rfl)
theorem Holds.put (H : Holds N s a) (hn : look s d = none) (hd : d < N) (v : Value) : Holds N ((d, v) :: s) (a.put (some d) v) := by
  refine ⟨by simp [Act.put, H.size], H.defers, fun t u h => ?_⟩
  show (a.tmps.setIfInBounds d v)[t]? = some u
  rw [Array.getElem?_setIfInBounds]
  unfold look at h
  by_cases e : t = d
  · subst e
    rw [show Nat.beq t t = true from Nat.beq_refl t] at h
    simp only [cond_true, Option.some.injEq] at h
    rw [if_pos rfl, if_pos (by rw [H.size]; exact hd), h]
  · have : Nat.beq t d = false := by
      cases hb : Nat.beq t d with
      | false => rfl
      | true => exact absurd (Nat.eq_of_beq_eq_true hb) e
    rw [this] at h
    rw [if_neg (fun e' => e e'.symm)]
    exact H.at_ t u h
theorem ev (H : Holds N s a) {t : Nat} {v : Value} (h : look s t = some v) : a.eval (.tmp t) = v := by
  have := H.at_ t v h
  simp [Act.eval, this]
theorem Holds.two (H : Holds N s a) {t1 t2 : Nat} {v1 v2 : Value} (h1 : look s t1 = some v1) (h2 : look s t2 = some v2) : Holds N [(t1, v1), (t2, v2)] a := by
  refine ⟨H.size, H.defers, fun t u h => ?_⟩
  unfold look at h
  cases e1 : Nat.beq t t1 with
  | true => rw [e1] at h; simp at h; rw [← h, Nat.eq_of_beq_eq_true e1]; exact H.at_ _ _ h1
  | false =>
    rw [e1] at h
    simp only [cond_false] at h
    unfold look at h
    cases e2 : Nat.beq t t2 with
    | true => rw [e2] at h; simp at h; rw [← h, Nat.eq_of_beq_eq_true e2]; exact H.at_ _ _ h2
    | false => rw [e2] at h; simp [look] at h
theorem Holds.three (H : Holds N s a) {t1 t2 t3 : Nat} {v1 v2 v3 : Value} (h1 : look s t1 = some v1) (h2 : look s t2 = some v2) (h3 : look s t3 = some v3) : Holds N [(t1, v1), (t2, v2), (t3, v3)] a := by
  have H2 := H.two h2 h3
  refine ⟨H.size, H.defers, fun t u h => ?_⟩
  unfold look at h
  cases e1 : Nat.beq t t1 with
  | true => rw [e1] at h; simp at h; rw [← h, Nat.eq_of_beq_eq_true e1]; exact H.at_ _ _ h1
  | false => rw [e1] at h; exact H2.at_ t u h
theorem Holds.start2 {t1 t2 : Nat} {v1 v2 : Value} (hs : a.tmps.size = N) (hd : a.defers = []) (h1 : a.tmps[t1]? = some v1) (h2 : a.tmps[t2]? = some v2) : Holds N [(t1, v1), (t2, v2)] a := by
  refine ⟨hs, hd, fun t u h => ?_⟩
  unfold look at h
  cases e1 : Nat.beq t t1 with
  | true => rw [e1] at h; simp at h; rw [← h, Nat.eq_of_beq_eq_true e1]; exact h1
  | false =>
    rw [e1] at h
    simp only [cond_false] at h
    unfold look at h
    cases e2 : Nat.beq t t2 with
    | true => rw [e2] at h; simp at h; rw [← h, Nat.eq_of_beq_eq_true e2]; exact h2
    | false => rw [e2] at h; simp [look] at h

theorem sg_skip (H : Holds N s a) (hg : gd ops s o = some false) (hdst : o.dst = some d) (hf : look s d = none) (hd : Nat.blt d N = true) (h : ∀ a', Holds N ((d, undef) :: s) a' → wpList P ops Q rest a' w) : wpList P ops Q (o :: rest) a w := by
  have hw := gd_wanted H hg
  simp only [wpList, hw]
  rw [hdst]
  exact h _ (H.put hf (by simpa [Nat.blt_eq] using hd) _)
theorem sg_run {v : Value} (H : Holds N s a) (hg : gd ops s o = some true) (hdst : o.dst = some d) (hf : look s d = none) (hd : Nat.blt d N = true) (hx : (execOp a.eval o).run P w = .ok (.value v) w)
    (h : ∀ a', Holds N ((d, v) :: s) a' → wpList P ops Q rest a' w) : wpList P ops Q (o :: rest) a w := by
  have hw := gd_wanted H hg
  unfold wpList
  rw [if_pos hw]
  left
  unfold Oper.wp
  rw [hx]
  show wpList P ops Q rest (a.put o.dst v) w
  rw [hdst]
  exact h _ (H.put hf (by simpa [Nat.blt_eq] using hd) _)
variable {ty : TypeId} {pos : String} {af : Array Edge} {g : Option (Nat × Bool)}
theorem sg_move {t : Nat} {v : Value} (H : Holds N s a) (hg : gd ops s ⟨some d, .move (.tmp t), ty, pos, af, g⟩ = some true) (hv : look s t = some v) (hf : look s d = none) (hd : Nat.blt d N = true)
    (h : ∀ a', Holds N ((d, v) :: s) a' → wpList P ops Q rest a' w) : wpList P ops Q (⟨some d, .move (.tmp t), ty, pos, af, g⟩ :: rest) a w :=
  sg_run H hg rfl hf hd (by simp [execOp, ev H hv]) h
theorem sg_assignc {c : Value} (H : Holds N s a) (hg : gd ops s ⟨some d, .assign (.const c), ty, pos, af, g⟩ = some true) (hf : look s d = none) (hd : Nat.blt d N = true)
    (h : ∀ a', Holds N ((d, c) :: s) a' → wpList P ops Q rest a' w) : wpList P ops Q (⟨some d, .assign (.const c), ty, pos, af, g⟩ :: rest) a w :=
  sg_run H hg rfl hf hd (by simp [execOp, Act.eval]) h
theorem sg_fa {T t F : Nat} {p q : Option Addr} (H : Holds N s a) (hx : (Instr.fieldAt T (.pointer p) F).run P w = .ok (.pointer q) w) (hg : gd ops s ⟨some d, .fieldAddr T (.tmp t) F, ty, pos, af, g⟩ = some true) (hv : look s t = some (.pointer p)) (hf : look s d = none) (hd : Nat.blt d N = true)
    (h : ∀ a', Holds N ((d, .pointer q) :: s) a' → wpList P ops Q rest a' w) : wpList P ops Q (⟨some d, .fieldAddr T (.tmp t) F, ty, pos, af, g⟩ :: rest) a w :=
  sg_run H hg rfl hf hd (by simp [execOp, ev H hv, hx]) h
theorem sg_load {T t : Nat} {q : Option Addr} {v : Value} (H : Holds N s a) (hx : (Instr.loadAt T (.pointer q)).run P w = .ok v w) (hg : gd ops s ⟨some d, .load T (.tmp t), ty, pos, af, g⟩ = some true) (hv : look s t = some (.pointer q)) (hf : look s d = none) (hd : Nat.blt d N = true)
    (h : ∀ a', Holds N ((d, v) :: s) a' → wpList P ops Q rest a' w) : wpList P ops Q (⟨some d, .load T (.tmp t), ty, pos, af, g⟩ :: rest) a w :=
  sg_run H hg rfl hf hd (by simp [execOp, ev H hv, hx]) h
/-- An operation of two operands, the second a constant: what it gives does not hang on which slot the first lies in. -/
theorem sg_bin {op : BinOp} {T T' t : Nat} {c x v : Value} (H : Holds N s a) (hx : (do eqGuard op T (.tmp t) (.const c) x c; binOp op T x c : Sem Value).run P w = .ok v w) (hg : gd ops s ⟨some d, .binOp op T (.tmp t) (.const c) T', ty, pos, af, g⟩ = some true) (hv : look s t = some x) (hf : look s d = none) (hd : Nat.blt d N = true)
    (h : ∀ a', Holds N ((d, v) :: s) a' → wpList P ops Q rest a' w) : wpList P ops Q (⟨some d, .binOp op T (.tmp t) (.const c) T', ty, pos, af, g⟩ :: rest) a w := by
  have e : a.eval (.const c) = c := rfl
  simp only [Sem.run_bind] at hx
  refine sg_run H hg rfl hf hd ?_ h
  simp only [execOp, ev H hv, e, Sem.run_bind]
  cases hr : Sem.run P (eqGuard op T (.tmp t) (.const c) x c) w with
  | ok u w' => rw [hr] at hx; simp only [Result.andThen_ok] at hx ⊢; rw [hx]; rfl
  | halt y w' => rw [hr] at hx; cases hx
theorem sg_not {T t : Nat} {b : Bool} (H : Holds N s a) (hg : gd ops s ⟨some d, .unOp .not T (.tmp t), ty, pos, af, g⟩ = some true) (hv : look s t = some (.bool b)) (hf : look s d = none) (hd : Nat.blt d N = true)
    (h : ∀ a', Holds N ((d, .bool (!b)) :: s) a' → wpList P ops Q rest a' w) : wpList P ops Q (⟨some d, .unOp .not T (.tmp t), ty, pos, af, g⟩ :: rest) a w :=
  sg_run H hg rfl hf hd (by simp [execOp, ev H hv, Op.unary]) h
/-- b && x -/
theorem sg_and {t t2 : Nat} {b : Bool} {v : Value} {c : Bool} (H : Holds N s a) (hg : gd ops s ⟨some d, .pick (.tmp t) (.tmp t2) (.const (.bool false)), ty, pos, af, g⟩ = some true) (hv : look s t = some (.bool b)) (h2 : look s t2 = some v) (hc : (b = false ∧ c = false) ∨ (b = true ∧ v = .bool c)) (hf : look s d = none) (hd : Nat.blt d N = true)
    (h : ∀ a', Holds N ((d, .bool c) :: s) a' → wpList P ops Q rest a' w) : wpList P ops Q (⟨some d, .pick (.tmp t) (.tmp t2) (.const (.bool false)), ty, pos, af, g⟩ :: rest) a w := by
  have e : a.eval (.const (.bool false)) = .bool false := rfl
  refine sg_run H hg rfl hf hd ?_ h
  rcases hc with ⟨rfl, rfl⟩ | ⟨rfl, rfl⟩ <;> simp [execOp, ev H hv, ev H h2, e, asBool]
/-- b || x -/
theorem sg_or {t t2 : Nat} {b : Bool} {v : Value} {c : Bool} (H : Holds N s a) (hg : gd ops s ⟨some d, .pick (.tmp t) (.const (.bool true)) (.tmp t2), ty, pos, af, g⟩ = some true) (hv : look s t = some (.bool b)) (h2 : look s t2 = some v) (hc : (b = true ∧ c = true) ∨ (b = false ∧ v = .bool c)) (hf : look s d = none) (hd : Nat.blt d N = true)
    (h : ∀ a', Holds N ((d, .bool c) :: s) a' → wpList P ops Q rest a' w) : wpList P ops Q (⟨some d, .pick (.tmp t) (.const (.bool true)) (.tmp t2), ty, pos, af, g⟩ :: rest) a w := by
  have e : a.eval (.const (.bool true)) = .bool true := rfl
  refine sg_run H hg rfl hf hd ?_ h
  rcases hc with ⟨rfl, rfl⟩ | ⟨rfl, rfl⟩ <;> simp [execOp, ev H hv, ev H h2, e, asBool]
/-- The length of a string. -/
theorem sg_len {t : Nat} {x : ByteArray} {T : TypeId} (H : Holds N s a) (ht : P.underlying T = some .string) (hg : gd ops s ⟨some d, .call { callee := .builtin .len, args := #[.tmp t], argTypes := #[T] }, ty, pos, af, g⟩ = some true) (hv : look s t = some (.string x)) (hf : look s d = none) (hd : Nat.blt d N = true)
    (h : ∀ a', Holds N ((d, .int .i64 (x.size : Int)) :: s) a' → wpList P ops Q rest a' w) : wpList P ops Q (⟨some d, .call { callee := .builtin .len, args := #[.tmp t], argTypes := #[T] }, ty, pos, af, g⟩ :: rest) a w :=
  sg_run H hg rfl hf hd (by have e := H.at_ t _ hv; simp [go_sem, e, Builtin.len_, run_underlying ht]) h
/-- A call of a named function with two arguments, the second a constant, that leaves the world alone. -/
theorem sg_call2 {f : FuncId} {t : Nat} {c x v : Value} {ts : Array TypeId} (H : Holds N s a) (hcf : ∀ caps, (callFunc f caps).run P w = .ok (.enter f caps) w) (hc : Calls P f #[x, c] w fun e w' => e = .returned v ∧ w = w')
    (hg : gd ops s ⟨some d, .call { callee := .value (.func f), args := #[.tmp t, .const c], argTypes := ts }, ty, pos, af, g⟩ = some true) (hv : look s t = some x) (hf : look s d = none) (hd : Nat.blt d N = true)
    (h : ∀ a', Holds N ((d, v) :: s) a' → wpList P ops Q rest a' w) : wpList P ops Q (⟨some d, .call { callee := .value (.func f), args := #[.tmp t, .const c], argTypes := ts }, ty, pos, af, g⟩ :: rest) a w := by
  have hw := gd_wanted H hg
  have e1 : a.eval (.const c) = c := rfl
  have e2 : a.eval (.func f) = .func (.func f) #[] #[] := rfl
  unfold wpList
  rw [if_pos hw]
  left
  unfold Oper.wp execOp
  simp only [resolve, Deferred.ofValue, invoke, Sem.run_bind, Sem.run_pure, Result.andThen_ok, List.map_toArray, List.map_cons, List.map_nil, ev H hv, e1, e2, List.append_toArray, List.nil_append, List.append_nil, hcf]
  refine hc.mono ?_
  rintro x w' ⟨rfl, rfl⟩
  exact h _ (H.put hf (by simpa [Nat.blt_eq] using hd) _)
end
end Go.Proofs.Ytpbdgfgjlccapaa.sg
