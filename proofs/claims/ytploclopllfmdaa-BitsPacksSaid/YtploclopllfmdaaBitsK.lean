/-
  A slice of fields that came in, opened.
-/
import Derived.Test.YtploclopllfmdaaBitsJ
import Derived.Test.YtploclopllfmdaaFlat
import Derived.OpenShut
namespace Go.Proofs.Ytploclopllfmdaa.bw
open Go.RowKit Go.Proofs.Ytploclopllfmdaa.fl Go.Deep

theorem leaves_field : leaves Try.prog 2 38 = [(0, 3), (1, 3), (2, 22)] := by kernel_rfl
theorem cells_field : Try.prog.cellsOf 38 = 3 := by kernel_rfl

theorem open_fds {H : Type} {enc : TypeId × Value → H} {W : World} {base : Nat} {spare : Nat → Bool} {held : Bool} {a : Option Addr} {len cap : Nat} {d : DataW H} {p : List MemPlace}
    (h : DataW.Trod enc Try.prog W base spare held 36 (.slice a len cap) d p) : len ≤ cap ∧ cap ≤ maxLen ∧ ∃ F, Fds W a len F := by
  obtain ⟨fuel, hf⟩ := h
  rcases slice_leaves (n := 2) Try.underlying36 hf with h0 | ⟨x, len', cap', hcs, hl, hm, hi⟩
  · simp [Value.cells] at h0
    obtain ⟨rfl, rfl, rfl⟩ := h0
    exact ⟨Nat.le_refl _, Nat.zero_le _, fun _ => (0, 0, 0), .inl rfl⟩
  · simp [Value.cells] at hcs
    obtain ⟨rfl, rfl, rfl⟩ := hcs
    refine ⟨hl, hm, ?_⟩
    rw [cells_field, leaves_field] at hi
    have each : ∀ i, i < len → ∃ f : Int × Int × Int, W.cell? ⟨x.block, x.off + i * 3, none⟩ = some (.int .i64 f.1) ∧ W.cell? ⟨x.block, x.off + i * 3 + 1, none⟩ = some (.int .i64 f.2.1) ∧ W.cell? ⟨x.block, x.off + i * 3 + 2, none⟩ = some (.int .u64 f.2.2) ∧
        -9223372036854775808 ≤ f.1 ∧ f.1 ≤ 9223372036854775807 ∧ 0 ≤ f.2.2 ∧ f.2.2 ≤ 18446744073709551615 := by
      intro i hlt
      obtain ⟨v0, y0, m0, c0, t0⟩ := hi i hlt 0 3 (by simp) (by omega)
      obtain ⟨v1, y1, m1, c1, t1⟩ := hi i hlt 1 3 (by simp) (by omega)
      obtain ⟨v2, y2, m2, c2, t2⟩ := hi i hlt 2 22 (by simp) (by omega)
      obtain ⟨n0, e0, _, w0⟩ := DataW.trod_int Try.underlying3 t0
      obtain ⟨n1, e1, _, w1⟩ := DataW.trod_int Try.underlying3 t1
      obtain ⟨n2, e2, _, w2⟩ := DataW.trod_int Try.underlying22 t2
      simp at e0 e1 e2
      subst e0 e1 e2
      have b0 := bounds_i64 w0
      have b2 := bounds_u64 w2
      exact ⟨(n0, n1, n2), by simpa using cell_out c0, by simpa [Nat.add_assoc] using cell_out c1, by simpa [Nat.add_assoc] using cell_out c2, b0.1, b0.2, b2.1, b2.2⟩
    obtain ⟨F, hF⟩ := choose_lt each
    by_cases h0 : len = 0
    · subst h0
      exact ⟨F, .inl rfl⟩
    · obtain ⟨v0, y0, m0, c0, t0⟩ := hi 0 (by omega) 0 3 (by simp) (by omega)
      exact ⟨F, .inr ⟨x.block, x.off, by rw [← spot_out (by simpa using c0)], fun i hi => hF i hi⟩⟩
end Go.Proofs.Ytploclopllfmdaa.bw
