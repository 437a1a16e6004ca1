/-
  A slice of fields that came in, opened.
-/
import Derived.Test.YtapeejndekoicaaWireE
import Derived.Test.YtapeejndekoicaaFlat
import Derived.OpenShut
namespace Go.Proofs.Ytapeejndekoicaa.ww
open Go.RowKit Go.Proofs.Ytapeejndekoicaa.fl Go.Proofs.Ytapeejndekoicaa.ba Go.Deep

theorem leaves_field : leaves Try.prog 3 29 = [(0, 3), (1, 27), (2, 9)] := by kernel_rfl
theorem cells_field : Try.prog.cellsOf 29 = 3 := by kernel_rfl

theorem open_fields {H : Type} {enc : TypeId × Value → H} {W : World} {base : Nat} {spare : Nat → Bool} {held : Bool} {a : Option Addr} {len cap : Nat} {d : DataW H} {p : List MemPlace}
    (h : DataW.Trod enc Try.prog W base spare held 22 (.slice a len cap) d p) : len ≤ cap ∧ cap ≤ 9223372036854775807 ∧ RawF W a len := by
  obtain ⟨fuel, hf⟩ := h
  rcases slice_leaves (n := 3) Try.underlying22 hf with h0 | ⟨x, len', cap', hcs, hl, hm, hi⟩
  · simp [Value.cells] at h0
    obtain ⟨rfl, rfl, rfl⟩ := h0
    exact ⟨Nat.le_refl _, Nat.zero_le _, .inl rfl⟩
  · simp [Value.cells] at hcs
    obtain ⟨rfl, rfl, rfl⟩ := hcs
    unfold maxLen at hm
    refine ⟨hl, by omega, ?_⟩
    rw [cells_field, leaves_field] at hi
    by_cases h0 : len = 0
    · exact .inl h0
    · have hx0 : x = ⟨x.block, x.off, none⟩ := by
        obtain ⟨v0, y0, m0, c0, t0⟩ := hi 0 (by omega) 0 3 (by simp) (by omega)
        exact spot_out (by simpa using c0)
      refine .inr ⟨x.block, x.off, congrArg some hx0, fun i hlt => ?_⟩
      obtain ⟨v0, y0, m0, c0, t0⟩ := hi i hlt 0 3 (by simp) (by omega)
      obtain ⟨n0, e0, _, w0⟩ := DataW.trod_int Try.underlying3 t0
      simp at e0
      subst e0
      obtain ⟨v1, y1, m1, c1, t1⟩ := hi i hlt 1 27 (by simp) (by omega)
      obtain ⟨n1, e1, _, w1⟩ := DataW.trod_int Try.underlying27 t1
      simp at e1
      subst e1
      obtain ⟨v2, y2, m2, c2, t2⟩ := hi i hlt 2 9 (by simp) (by omega)
      obtain ⟨s2, e2, _, w2⟩ := DataW.trod_string Try.underlying9 t2
      simp at e2
      subst e2
      have b0 := bounds_i64 w0
      have b1 := bounds_u64 w1
      exact ⟨n0, n1, s2, b0.1, b0.2, b1.1, b1.2, by unfold maxLen at w2; omega, by simpa using cell_out c0, by simpa [Nat.add_assoc] using cell_out c1, by simpa [Nat.add_assoc] using cell_out c2⟩
end Go.Proofs.Ytapeejndekoicaa.ww
