/-
  The walk of the law WireRoom.
-/
import Derived.Test.YtapeejndekoicaaWireO
namespace Go.Proofs.Ytapeejndekoicaa.ww
open Go.RowKit Go.Proofs.Ytapeejndekoicaa.ba Go.Proofs.Ytapeejndekoicaa.dp Go.Proofs.Ytapeejndekoicaa.wp Go.Proofs.Ytapeejndekoicaa.dw
set_option linter.unusedVariables false

theorem smaK_pos : ∀ f n, 0 < f → 0 < (smaK f n).length := by
  intro f n hf
  cases f with
  | zero => omega
  | succ f => rw [smaK]; split <;> simp
def allB (F : List Fld) : List Int := F.flatMap fb
theorem fb_pos (f : Fld) : 1 ≤ (fb f).length := by
  have h1 := smaK_pos 10 f.2.1 (by decide)
  have h2 := smaK_pos 10 f.2.2.size (by decide)
  unfold fb
  split
  · simp
  · split
    · rw [beB_len]; omega
    · split
      · rw [beB_len]; omega
      · split
        · exact h1
        · rw [List.length_append]; unfold smaL; omega
theorem wfold_fits (room : Int) (F : List Fld) : ∀ out, ((out.length + (allB F).length : Nat) : Int) ≤ room → wfold room F (out, 0) = (out ++ allB F, 0) := by
  induction F with
  | nil => intro out _; simp [wfold, allB]
  | cons f F ih =>
    intro out h
    have e : allB (f :: F) = fb f ++ allB F := by simp [allB]
    rw [e] at h ⊢
    rw [List.length_append] at h
    show wfold room F (wput room (fb f) (out, 0)) = _
    rw [wput_fits (by omega), ih _ (by rw [List.length_append]; omega), List.append_assoc]
theorem wfold_over (room : Int) (F : List Fld) : ∀ out, (out.length : Int) ≤ room → room < ((out.length + (allB F).length : Nat) : Int) → (wfold room F (out, 0)).2 = 2 := by
  induction F with
  | nil => intro out h1 h2; simp [allB] at h2; omega
  | cons f F ih =>
    intro out h1 h2
    have e : allB (f :: F) = fb f ++ allB F := by simp [allB]
    rw [e, List.length_append] at h2
    show (wfold room F (wput room (fb f) (out, 0))).2 = 2
    by_cases h : room - out.length < (fb f).length
    · rw [wput_long h, wfold_bad _ _ _ (by simp)]
    · rw [wput_fits h]
      exact ih _ (by rw [List.length_append]; omega) (by rw [List.length_append]; omega)
theorem allB_len (F : List Fld) (h : ∀ f ∈ F, good f) : (allB F).length ≤ 210 * F.length := by
  induction F with
  | nil => simp [allB]
  | cons f F ih =>
    have e : allB (f :: F) = fb f ++ allB F := by simp [allB]
    have h1 := fb_len f (h f (by simp))
    have h2 := ih fun f hf => h f (by simp [hf])
    rw [e, List.length_append, List.length_cons]
    omega
/-- What a writer with one byte less has. -/
def less (n : Nat) : Int := if (n : Int) - 1 < 0 then 0 else (n : Int) - 1
theorem wfold_less (F : List Fld) : ((wfold (less (allB F).length) F ([], 0)).2 = 2 ∧ 0 < (allB F).length) ∨ (wfold (less (allB F).length) F ([], 0) = ([], 0) ∧ (allB F).length = 0) := by
  rcases Nat.eq_zero_or_pos (allB F).length with h | h
  · right
    cases F with
    | nil => exact ⟨rfl, h⟩
    | cons f F =>
      have e : allB (f :: F) = fb f ++ allB F := by simp [allB]
      have := fb_pos f
      rw [e, List.length_append] at h
      omega
  · left
    refine ⟨wfold_over _ F [] ?_ ?_, h⟩
    · unfold less; split <;> simp <;> omega
    · unfold less; split <;> simp <;> omega

section
variable {w w' w1 w2 : World} {g g' : Nat} {q q' : Option Nat} {l l' : List Int} {e e' room room' : Int}
theorem Wr.other (h : Wr w g q l e room) (h' : Wr w g' q' l' e' room') : q ≠ some g' := by
  obtain ⟨v, _, ho, rfl⟩ := h
  obtain ⟨v', hB', _, _⟩ := h'
  rcases own_ne ho hB' (by simp) with h | h
  · rw [h]; simp
  · exact h
/-- Two writers of the call's own, apart. -/
def K2 (w w' : World) (g1 g2 : Nat) (s1 s2 : List Int × Int) (r1 r2 : Int) : Prop :=
  g1 ≠ g2 ∧ w.heap.size ≤ g1 ∧ w.heap.size ≤ g2 ∧ Below w.heap.size w w' ∧ ∃ q1 q2, Wr w' g1 q1 s1.1 s1.2 r1 ∧ Wr w' g2 q2 s2.1 s2.2 r2 ∧ (∀ j, q1 = some j → w.heap.size ≤ j) ∧ (∀ j, q2 = some j → w.heap.size ≤ j) ∧ ∀ j, q1 = some j → q2 ≠ some j
theorem K2.swap {g1 g2 : Nat} {s1 s2 : List Int × Int} {r1 r2 : Int} (h : K2 w w' g1 g2 s1 s2 r1 r2) : K2 w w' g2 g1 s2 s1 r2 r1 := by
  obtain ⟨h1, h2, h3, h4, q1, q2, k1, k2, k3, k4, k5⟩ := h
  exact ⟨h1.symm, h3, h2, h4, q2, q1, k2, k1, k4, k3, fun j hj hj2 => k5 j hj2 hj⟩
theorem K2.call {g1 g2 : Nat} {s1 s2 s' : List Int × Int} {r1 r2 : Int} {M : Nat} {args : Array Value} (h : K2 w w1 g1 g2 s1 s2 r1 r2) (hC : ∀ q, Wr w1 g1 q s1.1 s1.2 r1 → Calls Try.prog M args w1 fun x w' => WrDone w1 w' g1 q s' r1 x) :
    Calls Try.prog M args w1 fun x w' => x = .returned (.pointer (some ⟨g1, 0, none⟩)) ∧ K2 w w' g1 g2 s' s2 r1 r2 := by
  obtain ⟨h1, h2, h3, h4, q1, q2, k1, k2, k3, k4, k5⟩ := h
  refine (hC q1 k1).mono fun x w' ⟨hx, q1', m1, m2, m3⟩ => ⟨hx, h1, h2, h3, m2.below h4 (fun j hj => ?_), q1', q2, m1, k2.kept m2 (fun hj => ?_) (fun j hj hS => ?_), fun j hj => ?_, k4, fun j hj hj2 => ?_⟩
  · rcases hj with rfl | hj
    · exact h2
    · exact k3 j hj
  · rcases hj with hj | hj
    · exact h1 hj.symm
    · exact k1.other k2 hj
  · rcases hS with rfl | hS
    · exact k2.other k1 hj
    · exact k5 j hS hj
  · rcases m3 with rfl | ⟨k, hk, hk2⟩
    · exact k3 j hj
    · rw [hk] at hj; cases hj; exact Nat.le_trans h4.size hk2
  · rcases m3 with rfl | ⟨k, hk, hk2⟩
    · exact k5 j hj hj2
    · rw [hk] at hj
      cases hj
      have := (k2.lt).2 _ hj2
      omega
theorem K2.one {g1 g2 : Nat} {s1 s2 : List Int × Int} {r1 r2 : Int} (h : K2 w w' g1 g2 s1 s2 r1 r2) : KW w w' g1 s1 r1 := by
  obtain ⟨h1, h2, h3, h4, q1, q2, k1, k2, k3, k4, k5⟩ := h
  exact ⟨h2, h4, q1, k1, k3⟩
/-- A second writer, made behind a first one. -/
theorem K2.make {g1 : Nat} {s1 s2 : List Int × Int} {r1 r2 : Int} (h : KW w w1 g1 s1 r1) (h2 : KW w1 w2 w1.heap.size s2 r2) : K2 w w2 g1 w1.heap.size s1 s2 r1 r2 := by
  obtain ⟨h1, hb, q1, k1, k3⟩ := h
  obtain ⟨_, hb2, q2, m1, m2⟩ := h2
  have hlt := k1.lt
  refine ⟨by omega, h1, hb.size, bthen hb hb2, q1, q2, k1.below hb2, m1, k3, fun j hj => Nat.le_trans hb.size (m2 j hj), fun j hj hj2 => ?_⟩
  have a := hlt.2 j hj
  have b := m2 j hj2
  omega
end
end Go.Proofs.Ytapeejndekoicaa.ww
