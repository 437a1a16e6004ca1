/-
  x[k:] and x[:k] of a slice that reads as a list, as one equation, whatever the capacity. For whatever program.
-/
import Derived.Test.YtapeejndekoicaaLst
import Derived.Laws.Slices
namespace Go.Proofs.Ytapeejndekoicaa.ba
open Go.RowKit
set_option linter.unusedVariables false

theorem run_cut_from {P : Program} (t e : TypeId) (ht : P.underlying t = some (.slice e)) (i : TypeInfo) (hi : P.info? e = some i) (hs : i.size = 1) (a : Option Addr) (n cap k : Nat) (hk : k ≤ n) (hn : n ≤ cap) :
    ∃ (a' : Option Addr) (n' c' : Nat), (∀ w, (Instr.slice t (.slice a n cap) (some (.int .i64 (k : Int))) none none).run P w = .ok (.slice a' n' c') w) ∧ n' = n - k ∧ n' ≤ c' ∧ c' ≤ cap ∧
      (∀ (kd : IntKind) (w : World) (l : List Int), l.length = n → Lst kd w a l → Lst kd w a' (l.drop k)) ∧ (∀ x, a' = some x → ∃ y, a = some y ∧ x.block = y.block) := by
  have hel : P.elem t = e := by simp [Program.elem, ht]
  refine ⟨if cap = k then a else a.map (·.add (k * 1)), n - k, cap - k, fun w => ?_, rfl, by omega, by omega, fun kd w l hl hL => ?_, fun x hx => ?_⟩
  · rw [run_slice_l w t a n cap (by rw [hel]; exact ht) .i64 (k : Int) (by omega) (by omega), hel]
    simp [sizeOf, typeInfo, hi, hs, sliced]
  · by_cases hc : cap = k
    · rw [if_pos hc, List.drop_eq_nil_of_le (by omega)]
      exact Lst.nil _ _ _
    · rw [if_neg hc]
      rcases hL with rfl | ⟨b, off, rfl, h⟩
      · exact .inl (by simp)
      · refine .inr ⟨b, off + k, by simp [Addr.add_lit], fun i v hv => ?_⟩
        rw [List.getElem?_drop] at hv
        have := h (k + i) v hv
        rwa [← Nat.add_assoc] at this
  · split at hx
    · exact ⟨x, hx, rfl⟩
    · cases a with
      | none => simp at hx
      | some y =>
        simp at hx
        refine ⟨y, rfl, ?_⟩
        rw [← hx]
        unfold Addr.add
        split <;> rfl
end Go.Proofs.Ytapeejndekoicaa.ba
