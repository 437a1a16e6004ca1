/-
  Readings of arguments, leaf by leaf: a struct's (or nested structs') cells that are bools, numbers, strings or slices, each with its own reading. For whatever program.
-/
import Derived.Test.YtpbdgfgjlccapaaRows
import Derived.ProofKit
import Derived.Deep.Slices
namespace Go.Proofs.Ytpbdgfgjlccapaa.fl
open Go.ChangeShapes Go.WideShapes Go.Deep
set_option linter.unusedVariables false

/-- The leaves of a type, with their offsets: what is no struct. -/
def leaves (P : Program) : Nat → TypeId → List (Nat × TypeId)
  | 0, _ => []
  | n + 1, t => match P.underlying t with
    | some (.struct fs) => fs.toList.flatMap fun f => (leaves P n f.type).map fun x => (f.offset + x.1, x.2)
    | some .bool => [(0, t)]
    | some (.int _) => [(0, t)]
    | some .string => [(0, t)]
    | some (.slice _) => [(0, t)]
    | _ => []

section
variable {H : Type} {enc : TypeId × Value → H} {P : Program} {w : World} {base : Nat} {spare : Nat → Bool} {held : Bool}

theorem one_cell {t : TypeId} {fuel : Nat} {cs : List Value} {x : DataW H × List MemPlace} (d : TypeDesc) (ht : P.underlying t = some d)
    (hd : d = .bool ∨ (∃ k, d = .int k) ∨ d = .string ∨ ∃ e, d = .slice e) (h : DataW.trod enc P w base spare held fuel t cs = some x) : ∃ v, cs = [v] := by
  rcases hd with rfl | ⟨k, rfl⟩ | rfl | ⟨e, rfl⟩
  · obtain ⟨b, rfl, _⟩ := DataW.trod_bool ht h; exact ⟨_, rfl⟩
  · obtain ⟨b, rfl, _⟩ := DataW.trod_int ht h; exact ⟨_, rfl⟩
  · obtain ⟨b, rfl, _⟩ := DataW.trod_string ht h; exact ⟨_, rfl⟩
  · rcases DataW.trod_slice ht h with ⟨rfl, _⟩ | ⟨a, len, cap, _, _, _, _, rfl, _⟩
    · exact ⟨_, rfl⟩
    · exact ⟨_, rfl⟩

theorem at_zero {α : Type} {v : α} {l cs : List α} {o n : Nat} (h : (cs.drop o).take n = l) (i : Nat) (hi : l[i]? = some v) : cs[o + i]? = some v := by
  subst h
  rw [List.getElem?_take] at hi
  split at hi
  · rwa [List.getElem?_drop] at hi
  · cases hi

theorem trod_leaf (n : Nat) : ∀ (t : TypeId) (fuel : Nat) (cs : List Value) (x : DataW H × List MemPlace) (o : Nat) (u : TypeId), (o, u) ∈ leaves P n t →
    DataW.trod enc P w base spare held fuel t cs = some x → ∃ (v : Value) (y : DataW H × List MemPlace) (m : Nat), cs[o]? = some v ∧ DataW.trod enc P w base spare held m u [v] = some y := by
  induction n with
  | zero => intro t fuel cs x o u hm; simp [leaves] at hm
  | succ n ih =>
    intro t fuel cs x o u hm h
    unfold leaves at hm
    have leaf : ∀ (d : TypeDesc), P.underlying t = some d → (d = .bool ∨ (∃ k, d = .int k) ∨ d = .string ∨ ∃ e, d = .slice e) → (o, u) ∈ [(0, t)] →
        ∃ (v : Value) (y : DataW H × List MemPlace) (m : Nat), cs[o]? = some v ∧ DataW.trod enc P w base spare held m u [v] = some y := by
      intro d ht hd hou
      simp only [List.mem_singleton, Prod.mk.injEq] at hou
      obtain ⟨rfl, rfl⟩ := hou
      obtain ⟨v, rfl⟩ := one_cell d ht hd h
      exact ⟨v, x, fuel, rfl, h⟩
    split at hm
    · rename_i fs hs
      obtain ⟨xs, n', _, _, _, _, hf⟩ := DataW.trod_struct hs h
      obtain ⟨f, hfm, hx⟩ := List.mem_flatMap.1 hm
      obtain ⟨⟨o', u'⟩, hl, he⟩ := List.mem_map.1 hx
      simp only [Prod.mk.injEq] at he
      obtain ⟨rfl, rfl⟩ := he
      obtain ⟨i, hi, hfi⟩ := List.mem_iff_getElem.1 hfm
      have h1 := hf i f (by rw [← hfi]; simp at hi ⊢)
      have hlen : i < xs.length := by
        by_cases hlt : i < xs.length
        · exact hlt
        · exfalso
          obtain ⟨xs', n'', _, _, _, hl', _⟩ := DataW.trod_struct hs h
          simp at hi
          omega
      rw [List.getElem?_eq_getElem hlen] at h1
      obtain ⟨v, y, m, hv, hy⟩ := ih f.type n' _ _ o' u' hl h1
      exact ⟨v, y, m, at_zero rfl o' hv, hy⟩
    · rename_i hs; exact leaf _ hs (.inl rfl) hm
    · rename_i k hs; exact leaf _ hs (.inr (.inl ⟨_, rfl⟩)) hm
    · rename_i hs; exact leaf _ hs (.inr (.inr (.inl rfl))) hm
    · rename_i e hs; exact leaf _ hs (.inr (.inr (.inr ⟨_, rfl⟩))) hm
    · simp at hm

/-- A slice that came in: nil, or a row; each leaf of each element that counts. -/
theorem slice_leaves {t e : TypeId} {fuel n : Nat} {cs : List Value} {x : DataW H × List MemPlace} (ht : P.underlying t = some (.slice e)) (h : DataW.trod enc P w base spare held fuel t cs = some x) :
    cs = [.slice none 0 0] ∨ ∃ (a : Addr) (len cap : Nat), cs = [.slice (some a) len cap] ∧ len ≤ cap ∧ cap ≤ maxLen ∧
      ∀ i, i < len → ∀ o u, (o, u) ∈ leaves P n e → o < P.cellsOf e → ∃ (v : Value) (y : DataW H × List MemPlace) (m : Nat), w.cell? (a.add (i * P.cellsOf e + o)) = some v ∧ DataW.trod enc P w base spare held m u [v] = some y := by
  rcases open_slice ht h with ⟨h0, _⟩ | ⟨a, len, cap, m, n', D, Pl, rfl, _, hl, hm, hmm, _, hi⟩
  · exact .inl h0
  · refine .inr ⟨a, len, cap, rfl, hl, hm, fun i hlt o u hou ho => ?_⟩
    obtain ⟨cs', hc, ht'⟩ := hi i (by split at hmm <;> omega)
    obtain ⟨v, y, k, hv, hy⟩ := trod_leaf n e n' cs' _ o u hou ht'
    obtain ⟨_, _, hat⟩ := World.cells?_some hc
    refine ⟨v, y, k, ?_, hy⟩
    rw [← add_add, hat o ho, hv]

/-- An address that is read, written out. -/
theorem add_out {a : Addr} {j : Nat} {v : Value} (h : w.cell? (a.add j) = some v) : a.add j = ⟨a.block, a.off + j, none⟩ := by
  have hs := World.cell?_spot h
  unfold Addr.add at hs ⊢
  split
  · rename_i h0
    subst h0
    simp at hs
    cases a
    simp_all
  · rfl

theorem cell_out {a : Addr} {j : Nat} {v : Value} (h : w.cell? (a.add j) = some v) : w.cell? ⟨a.block, a.off + j, none⟩ = some v := by
  rw [add_out h] at h; exact h

theorem spot_out {a : Addr} {v : Value} (h : w.cell? (a.add 0) = some v) : a = ⟨a.block, a.off, none⟩ := by
  have := add_out h
  simpa [Addr.add] using this
end
end Go.Proofs.Ytpbdgfgjlccapaa.fl
