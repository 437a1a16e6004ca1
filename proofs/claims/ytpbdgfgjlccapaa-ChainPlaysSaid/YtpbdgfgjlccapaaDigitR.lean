/-
  A slice of numbers of 64 bits that came in, opened.
-/
import Derived.Test.YtpbdgfgjlccapaaLst
import Derived.Test.YtpbdgfgjlccapaaFlat
import Derived.OpenShut
namespace Go.Proofs.Ytpbdgfgjlccapaa.dw
open Go.RowKit Go.Proofs.Ytpbdgfgjlccapaa.fl Go.Proofs.Ytpbdgfgjlccapaa.ba Go.Deep
set_option maxRecDepth 8000

theorem leaves_word : leaves Try.prog 2 24 = [(0, 24)] := by kernel_rfl
theorem cells_word : Try.prog.cellsOf 24 = 1 := by kernel_rfl

theorem open_words {H : Type} {enc : TypeId × Value → H} {W : World} {base : Nat} {spare : Nat → Bool} {held : Bool} {a : Option Addr} {len cap : Nat} {d : DataW H} {p : List MemPlace}
    (h : DataW.Trod enc Try.prog W base spare held 23 (.slice a len cap) d p) : len ≤ cap ∧ cap ≤ maxLen ∧ ∃ Z, Ints .u64 W a len Z ∧ ∀ i, i < len → 0 ≤ Z i ∧ Z i ≤ 18446744073709551615 := by
  obtain ⟨fuel, hf⟩ := h
  rcases slice_leaves (n := 2) Try.underlying23 hf with h0 | ⟨x, len', cap', hcs, hl, hm, hi⟩
  · simp [Value.cells] at h0
    obtain ⟨rfl, rfl, rfl⟩ := h0
    exact ⟨Nat.le_refl _, Nat.zero_le _, fun _ => 0, .inl rfl, fun i hi => absurd hi (by omega)⟩
  · simp [Value.cells] at hcs
    obtain ⟨rfl, rfl, rfl⟩ := hcs
    refine ⟨hl, hm, ?_⟩
    rw [cells_word, leaves_word] at hi
    have each : ∀ i, ∃ f : Int, i < len → W.cell? ⟨x.block, x.off + i, none⟩ = some (.int .u64 f) ∧ 0 ≤ f ∧ f ≤ 18446744073709551615 := by
      intro i
      by_cases hlt : i < len
      · obtain ⟨v0, y0, m0, c0, t0⟩ := hi i hlt 0 24 (by simp) (by omega)
        obtain ⟨n0, e0, _, w0⟩ := DataW.trod_int Try.underlying24 t0
        simp at e0
        subst e0
        simp [Lit.wf, IntKind.min, IntKind.max, IntKind.bits, IntKind.signed] at w0
        exact ⟨n0, fun _ => ⟨by simpa using cell_out c0, by omega, by omega⟩⟩
      · exact ⟨0, fun h => absurd h hlt⟩
    obtain ⟨Z, hZ⟩ : ∃ Z : Nat → Int, ∀ i, i < len → W.cell? ⟨x.block, x.off + i, none⟩ = some (.int .u64 (Z i)) ∧ 0 ≤ Z i ∧ Z i ≤ 18446744073709551615 := ⟨fun i => Classical.choose (each i), fun i hi => Classical.choose_spec (each i) hi⟩
    by_cases h0 : len = 0
    · subst h0
      exact ⟨Z, .inl rfl, fun i hi => absurd hi (by omega)⟩
    · obtain ⟨v0, y0, m0, c0, t0⟩ := hi 0 (by omega) 0 24 (by simp) (by omega)
      exact ⟨Z, .inr ⟨x.block, x.off, by rw [← spot_out (by simpa using c0)], fun i hi => (hZ i hi).1⟩, fun i hi => (hZ i hi).2⟩
end Go.Proofs.Ytpbdgfgjlccapaa.dw
