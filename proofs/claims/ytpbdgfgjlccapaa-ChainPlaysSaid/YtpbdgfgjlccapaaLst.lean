/-
  Slices as lists of numbers. For whatever program.
-/
import Derived.Test.YtpbdgfgjlccapaaInts
namespace Go.Proofs.Ytpbdgfgjlccapaa.ba
open Go.RowKit
set_option maxRecDepth 8000
set_option linter.unusedVariables false

/-- From the slice's address on the cells hold just these numbers. -/
def Lst (k : IntKind) (w : World) (a : Option Addr) (l : List Int) : Prop :=
  l = [] ∨ ∃ b off, a = some ⟨b, off, none⟩ ∧ ∀ i v, l[i]? = some v → w.cell? ⟨b, off + i, none⟩ = some (.int k v)

section
variable {k : IntKind} {w w' : World} {a : Option Addr} {l : List Int}

theorem Lst.nil (k : IntKind) (w : World) (a : Option Addr) : Lst k w a [] := .inl rfl
theorem Lst.below (h : Lst k w a l) (hb : Below w.heap.size w w') : Lst k w' a l := by
  rcases h with h | ⟨b, off, rfl, h⟩
  · exact .inl h
  · exact .inr ⟨b, off, rfl, fun i v hv => (hb.cell (p := ⟨b, off + i, none⟩) (World.block_lt_of_cell? w ⟨b, off + i, none⟩ (h i v hv))).trans (h i v hv)⟩
theorem Lst.ints (h : Lst k w a l) : Ints k w a l.length (fun i => l.getD i 0) := by
  rcases h with rfl | ⟨b, off, rfl, h⟩
  · exact .inl rfl
  · exact .inr ⟨b, off, rfl, fun i hi => by rw [h i _ (List.getElem?_eq_getElem hi)]; simp [List.getD, hi]⟩
theorem Lst.of_ints {n : Nat} {Z : Nat → Int} (h : Ints k w a n Z) : Lst k w a (listOf Z n) := by
  rcases h with rfl | ⟨b, off, rfl, h⟩
  · exact .inl rfl
  · refine .inr ⟨b, off, rfl, fun i v hv => ?_⟩
    have hi : i < n := by
      rcases Nat.lt_or_ge i n with h1 | h1
      · exact h1
      · rw [List.getElem?_eq_none (by rw [listOf_length]; exact h1)] at hv; cases hv
    simp [listOf, hi] at hv
    rw [← hv]
    exact h i hi
theorem Lst.own {base : Nat} {e : TypeId} {n cap : Nat} (h : w.ownsRow base e 1 (.slice a n cap) n (l.map (Value.int k))) : Lst k w a l := by
  rcases h.2 with ⟨hv, rfl⟩ | ⟨g, cap', cur, hv, _⟩
  · have := h.1
    simp at this
    exact .inl this
  · cases hv
    refine .inr ⟨g, 0, rfl, fun i v hv => ?_⟩
    have := h.cells rfl i (.int k v) (by rw [List.getElem?_map, hv]; rfl)
    rwa [Addr.add_lit] at this
theorem Lst.take (h : Lst k w a l) (n : Nat) : Lst k w a (l.take n) := by
  rcases h with rfl | ⟨b, off, rfl, h⟩
  · exact .inl (by simp)
  · refine .inr ⟨b, off, rfl, fun i v hv => h i v ?_⟩
    rw [List.getElem?_take] at hv
    split at hv
    · exact hv
    · cases hv
/-- The cell at a place. -/
theorem Lst.at (h : Lst k w a l) {i : Nat} {v : Int} (hv : l[i]? = some v) : ∃ b off, a = some ⟨b, off, none⟩ ∧ w.cell? ⟨b, off + i, none⟩ = some (.int k v) := by
  rcases h with rfl | ⟨b, off, rfl, h⟩
  · simp at hv
  · exact ⟨b, off, rfl, h i v hv⟩
end
theorem drop_at {α : Type} {l : List α} {i : Nat} {v : α} (h : l[i]? = some v) : l.drop i = v :: l.drop (i + 1) := by
  obtain ⟨hi, rfl⟩ := List.getElem?_eq_some_iff.1 h
  exact List.drop_eq_getElem_cons hi
theorem some_at {α : Type} (l : List α) {i : Nat} (h : i < l.length) : ∃ v, l[i]? = some v := ⟨_, List.getElem?_eq_getElem h⟩
/-- Bytes. -/
def Bytes (l : List Int) : Prop := ∀ v ∈ l, 0 ≤ v ∧ v ≤ 255
theorem Bytes.at {l : List Int} (h : Bytes l) {i : Nat} {v : Int} (hv : l[i]? = some v) : 0 ≤ v ∧ v ≤ 255 := h v (List.mem_of_getElem? hv)
end Go.Proofs.Ytpbdgfgjlccapaa.ba
