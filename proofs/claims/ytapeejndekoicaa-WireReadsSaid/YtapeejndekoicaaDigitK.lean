/-
  A slice of bytes that came in, opened.
-/
import Derived.Test.YtapeejndekoicaaLst
import Derived.Test.YtapeejndekoicaaFlat
import Derived.OpenShut
namespace Go.Proofs.Ytapeejndekoicaa.dw
open Go.RowKit Go.Proofs.Ytapeejndekoicaa.fl Go.Proofs.Ytapeejndekoicaa.ba Go.Deep

theorem leaves_byte : leaves Try.prog 2 5 = [(0, 5)] := by kernel_rfl
theorem cells_byte : Try.prog.cellsOf 5 = 1 := by kernel_rfl

theorem open_bytes {H : Type} {enc : TypeId × Value → H} {W : World} {base : Nat} {spare : Nat → Bool} {held : Bool} {a : Option Addr} {len cap : Nat} {d : DataW H} {p : List MemPlace}
    (h : DataW.Trod enc Try.prog W base spare held 30 (.slice a len cap) d p) : len ≤ cap ∧ cap ≤ maxLen ∧ ∃ Z, Ints .u8 W a len Z ∧ ∀ i, i < len → 0 ≤ Z i ∧ Z i ≤ 255 := by
  obtain ⟨fuel, hf⟩ := h
  rcases slice_leaves (n := 2) Try.underlying30 hf with h0 | ⟨x, len', cap', hcs, hl, hm, hi⟩
  · simp [Value.cells] at h0
    obtain ⟨rfl, rfl, rfl⟩ := h0
    exact ⟨Nat.le_refl _, Nat.zero_le _, fun _ => 0, .inl rfl, fun i hi => absurd hi (by omega)⟩
  · simp [Value.cells] at hcs
    obtain ⟨rfl, rfl, rfl⟩ := hcs
    refine ⟨hl, hm, ?_⟩
    rw [cells_byte, leaves_byte] at hi
    have each : ∀ i, ∃ f : Int, i < len → W.cell? ⟨x.block, x.off + i, none⟩ = some (.int .u8 f) ∧ 0 ≤ f ∧ f ≤ 255 := by
      intro i
      by_cases hlt : i < len
      · obtain ⟨v0, y0, m0, c0, t0⟩ := hi i hlt 0 5 (by simp) (by omega)
        obtain ⟨n0, e0, _, w0⟩ := DataW.trod_int Try.underlying5 t0
        simp at e0
        subst e0
        simp [Lit.wf, IntKind.min, IntKind.max, IntKind.bits, IntKind.signed] at w0
        exact ⟨n0, fun _ => ⟨by simpa using cell_out c0, by omega, by omega⟩⟩
      · exact ⟨0, fun h => absurd h hlt⟩
    obtain ⟨Z, hZ⟩ : ∃ Z : Nat → Int, ∀ i, i < len → W.cell? ⟨x.block, x.off + i, none⟩ = some (.int .u8 (Z i)) ∧ 0 ≤ Z i ∧ Z i ≤ 255 := ⟨fun i => Classical.choose (each i), fun i hi => Classical.choose_spec (each i) hi⟩
    by_cases h0 : len = 0
    · subst h0
      exact ⟨Z, .inl rfl, fun i hi => absurd hi (by omega)⟩
    · obtain ⟨v0, y0, m0, c0, t0⟩ := hi 0 (by omega) 0 5 (by simp) (by omega)
      exact ⟨Z, .inr ⟨x.block, x.off, by rw [← spot_out (by simpa using c0)], fun i hi => (hZ i hi).1⟩, fun i hi => (hZ i hi).2⟩
end Go.Proofs.Ytapeejndekoicaa.dw
