/-
  A slice of integers that came in, opened.
-/
import Derived.Test.YtnjipfnajgcibaaBase
import Derived.Test.YtnjipfnajgcibaaFlat
import Derived.OpenShut
namespace Go.Proofs.Ytnjipfnajgcibaa.lw
open Go.RowKit Go.Proofs.Ytnjipfnajgcibaa.fl Go.Proofs.Ytnjipfnajgcibaa.ba Go.Deep

theorem leaves_int : leaves Try.prog 2 3 = [(0, 3)] := by kernel_rfl
theorem cells_int : Try.prog.cellsOf 3 = 1 := by kernel_rfl

theorem open_list {H : Type} {enc : TypeId × Value → H} {W : World} {base : Nat} {spare : Nat → Bool} {held : Bool} {a : Option Addr} {len cap : Nat} {d : DataW H} {p : List MemPlace}
    (h : DataW.Trod enc Try.prog W base spare held 27 (.slice a len cap) d p) : len ≤ cap ∧ cap ≤ maxLen ∧ ∃ Z, Ints .i64 W a len Z := by
  obtain ⟨fuel, hf⟩ := h
  rcases slice_leaves (n := 2) Try.underlying27 hf with h0 | ⟨x, len', cap', hcs, hl, hm, hi⟩
  · simp [Value.cells] at h0
    obtain ⟨rfl, rfl, rfl⟩ := h0
    exact ⟨Nat.le_refl _, Nat.zero_le _, fun _ => 0, .inl rfl⟩
  · simp [Value.cells] at hcs
    obtain ⟨rfl, rfl, rfl⟩ := hcs
    refine ⟨hl, hm, ?_⟩
    rw [cells_int, leaves_int] at hi
    have each : ∀ i, ∃ f : Int, i < len → W.cell? ⟨x.block, x.off + i, none⟩ = some (.int .i64 f) := by
      intro i
      by_cases hlt : i < len
      · obtain ⟨v0, y0, m0, c0, t0⟩ := hi i hlt 0 3 (by simp) (by omega)
        obtain ⟨n0, e0, _, w0⟩ := DataW.trod_int Try.underlying3 t0
        simp at e0
        subst e0
        exact ⟨n0, fun _ => by simpa using cell_out c0⟩
      · exact ⟨0, fun h => absurd h hlt⟩
    obtain ⟨Z, hZ⟩ : ∃ Z : Nat → Int, ∀ i, i < len → W.cell? ⟨x.block, x.off + i, none⟩ = some (.int .i64 (Z i)) := ⟨fun i => Classical.choose (each i), fun i hi => Classical.choose_spec (each i) hi⟩
    by_cases h0 : len = 0
    · subst h0
      exact ⟨Z, .inl rfl⟩
    · obtain ⟨v0, y0, m0, c0, t0⟩ := hi 0 (by omega) 0 3 (by simp) (by omega)
      exact ⟨Z, .inr ⟨x.block, x.off, by rw [← spot_out (by simpa using c0)], hZ⟩⟩
end Go.Proofs.Ytnjipfnajgcibaa.lw
