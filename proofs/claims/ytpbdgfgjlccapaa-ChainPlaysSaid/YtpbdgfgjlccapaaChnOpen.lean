/-
  Versions that came in, opened: one by value, a slice of them.
-/
import Derived.Test.YtpbdgfgjlccapaaChnI
import Derived.Test.YtpbdgfgjlccapaaFlat
import Derived.OpenShut
import Derived.Lib.SmallJoins
namespace Go.Proofs.Ytpbdgfgjlccapaa.cw
open Go.RowKit Go.Proofs.Ytpbdgfgjlccapaa.fl Go.Proofs.Ytpbdgfgjlccapaa.ba Go.Proofs.Ytpbdgfgjlccapaa.rp Go.Proofs.Ytpbdgfgjlccapaa.cp Go.Deep Go.Joins Go.WideShapes Go.ChangeShapes
set_option maxRecDepth 8000
set_option linter.unusedVariables false

theorem leaves_ver : leaves Try.prog 4 43 = [(0, 24), (1, 4), (2, 5), (3, 5), (4, 5), (5, 5), (6, 5), (7, 4), (8, 28), (9, 24), (10, 9)] := by kernel_rfl
theorem cells_ver : Try.prog.cellsOf 43 = 11 := by kernel_rfl
section
variable {H : Type} {enc : TypeId × Value → H} {W : World} {base : Nat} {spare : Nat → Bool} {held : Bool}
/-- Eleven leaves, each read, are a version. -/
theorem eleven_leaves {F : Nat → Value → Prop} (h : ∀ o u, (o, u) ∈ leaves Try.prog 4 43 → ∃ (v : Value) (y : DataW H × List MemPlace) (m : Nat), F o v ∧ DataW.trod enc Try.prog W base spare held m u [v] = some y) :
    ∃ r : V, r.ok ∧ ∀ c v, (vcells r)[c]? = some v → F c v := by
  rw [leaves_ver] at h
  obtain ⟨v0, y0, m0, c0, t0⟩ := h 0 24 (by simp)
  obtain ⟨n0, e0, _, w0⟩ := DataW.trod_int Try.underlying24 t0
  obtain ⟨v1, y1, m1, c1, t1⟩ := h 1 4 (by simp)
  obtain ⟨n1, e1, _⟩ := DataW.trod_bool Try.underlying4 t1
  obtain ⟨v2, y2, m2, c2, t2⟩ := h 2 5 (by simp)
  obtain ⟨n2, e2, _, w2⟩ := DataW.trod_int Try.underlying5 t2
  obtain ⟨v3, y3, m3, c3, t3⟩ := h 3 5 (by simp)
  obtain ⟨n3, e3, _, w3⟩ := DataW.trod_int Try.underlying5 t3
  obtain ⟨v4, y4, m4, c4, t4⟩ := h 4 5 (by simp)
  obtain ⟨n4, e4, _, w4⟩ := DataW.trod_int Try.underlying5 t4
  obtain ⟨v5, y5, m5, c5, t5⟩ := h 5 5 (by simp)
  obtain ⟨n5, e5, _, w5⟩ := DataW.trod_int Try.underlying5 t5
  obtain ⟨v6, y6, m6, c6, t6⟩ := h 6 5 (by simp)
  obtain ⟨n6, e6, _, w6⟩ := DataW.trod_int Try.underlying5 t6
  obtain ⟨v7, y7, m7, c7, t7⟩ := h 7 4 (by simp)
  obtain ⟨n7, e7, _⟩ := DataW.trod_bool Try.underlying4 t7
  obtain ⟨v8, y8, m8, c8, t8⟩ := h 8 28 (by simp)
  obtain ⟨n8, e8, _, w8⟩ := DataW.trod_int Try.underlying28 t8
  obtain ⟨v9, y9, m9, c9, t9⟩ := h 9 24 (by simp)
  obtain ⟨n9, e9, _, w9⟩ := DataW.trod_int Try.underlying24 t9
  obtain ⟨v10, y10, m10, c10, t10⟩ := h 10 9 (by simp)
  obtain ⟨n10, e10, _, w10⟩ := DataW.trod_string Try.underlying9 t10
  simp only [List.cons.injEq, and_true] at e0 e1 e2 e3 e4 e5 e6 e7 e8 e9 e10
  subst e0 e1 e2 e3 e4 e5 e6 e7 e8 e9 e10
  refine ⟨⟨n0, n1, ⟨n2, n3, n4, n5, n6, n7, n8, n9, n10⟩⟩, ⟨bounds_u64 w0, ⟨bounds_u8 w2, bounds_u8 w3, bounds_u8 w4, bounds_u8 w5, bounds_u8 w6, bounds_u32 w8, bounds_u64 w9, by unfold maxLen at w10; simp only; omega⟩⟩, fun c v hv => ?_⟩
  match c, hv with
  | 0, hv => cases hv; exact c0
  | 1, hv => cases hv; exact c1
  | 2, hv => cases hv; exact c2
  | 3, hv => cases hv; exact c3
  | 4, hv => cases hv; exact c4
  | 5, hv => cases hv; exact c5
  | 6, hv => cases hv; exact c6
  | 7, hv => cases hv; exact c7
  | 8, hv => cases hv; exact c8
  | 9, hv => cases hv; exact c9
  | 10, hv => cases hv; exact c10
  | c + 11, hv => simp [vcells] at hv
/-- A version by value. -/
theorem open_ver {r0 : Reach} {b0 : Nat} {v : Value} {d : DataW H} {p : List MemPlace} (hv : Value.okWide Try.prog W r0 b0 43 v) (h : DataW.Trod enc Try.prog W base spare held 43 v d p) : ∃ r : V, v = .agg #[.int .u64 r.a, .bool r.d, .int .u8 r.r.k, .int .u8 r.r.s, .int .u8 r.r.u, .int .u8 r.r.p, .int .u8 r.r.m, .bool r.r.g, .int .u32 r.r.v, .int .u64 r.r.a, .string r.r.t] ∧ r.ok := by
  obtain ⟨cs, rfl, hsz⟩ := okWide_struct Try.underlying43 hv
  rw [cells_ver] at hsz
  obtain ⟨fuel, hf⟩ := h
  obtain ⟨r, hr, hc⟩ := eleven_leaves (F := fun o v => cs[o]? = some v) (fun o u hou => by
    obtain ⟨v, y, m, h1, h2⟩ := trod_leaf 4 43 fuel _ _ o u hou hf
    exact ⟨v, y, m, by simpa [Value.cells] using h1, h2⟩)
  refine ⟨r, ?_, hr⟩
  congr 1
  refine Array.ext_getElem? fun i => ?_
  have hl : (#[.int .u64 r.a, .bool r.d, .int .u8 r.r.k, .int .u8 r.r.s, .int .u8 r.r.u, .int .u8 r.r.p, .int .u8 r.r.m, .bool r.r.g, .int .u32 r.r.v, .int .u64 r.r.a, .string r.r.t])[i]? = (vcells r)[i]? := by unfold vcells; simp
  rw [hl]
  cases hi : (vcells r)[i]? with
  | some v => exact hc i v hi
  | none =>
    have h9 : 11 ≤ i := by
      have := List.getElem?_eq_none_iff.1 hi
      simpa [vcells] using this
    rw [Array.getElem?_eq_none (by omega)]
/-- A slice of versions. -/
theorem open_vers {a : Option Addr} {len cap : Nat} {d : DataW H} {p : List MemPlace} (h : DataW.Trod enc Try.prog W base spare held 22 (.slice a len cap) d p) : len ≤ cap ∧ cap ≤ maxLen ∧ ∃ l : List V, l.length = len ∧ VL W a l ∧ ∀ r ∈ l, r.ok := by
  obtain ⟨fuel, hf⟩ := h
  rcases slice_leaves (n := 4) Try.underlying22 hf with h0 | ⟨x, len', cap', hcs, hl, hm, hi⟩
  · simp [Value.cells] at h0
    obtain ⟨rfl, rfl, rfl⟩ := h0
    exact ⟨Nat.le_refl _, Nat.zero_le _, [], rfl, .inl rfl, by simp⟩
  · simp [Value.cells] at hcs
    obtain ⟨rfl, rfl, rfl⟩ := hcs
    refine ⟨hl, hm, ?_⟩
    rw [cells_ver] at hi
    by_cases h0 : len = 0
    · subst h0; exact ⟨[], rfl, .inl rfl, by simp⟩
    · have hx0 : x = ⟨x.block, x.off, none⟩ := by
        obtain ⟨v0, y0, m0, c0, t0⟩ := hi 0 (by omega) 0 24 (by rw [leaves_ver]; simp) (by omega)
        exact spot_out (by simpa using c0)
      have hall : ∀ i, i < len → ∃ r : V, r.ok ∧ ∀ c v, (vcells r)[c]? = some v → W.cell? ⟨x.block, x.off + i * 11 + c, none⟩ = some v := fun i hlt =>
        eleven_leaves (enc := enc) (base := base) (spare := spare) (held := held) (F := fun o v => W.cell? ⟨x.block, x.off + i * 11 + o, none⟩ = some v) (fun o u hou => by
          obtain ⟨v, y, m, h1, h2⟩ := hi i hlt o u hou (by
            rw [leaves_ver] at hou
            simp at hou
            omega)
          refine ⟨v, y, m, ?_, h2⟩
          have := cell_out h1
          rwa [← Nat.add_assoc] at this)
      have hlist : ∀ n, n ≤ len → ∃ l : List V, l.length = n ∧ (∀ i r, l[i]? = some r → ∀ c v, (vcells r)[c]? = some v → W.cell? ⟨x.block, x.off + i * 11 + c, none⟩ = some v) ∧ ∀ r ∈ l, r.ok := by
        intro n
        induction n with
        | zero => exact fun _ => ⟨[], rfl, by simp, by simp⟩
        | succ n ih =>
          intro hn
          obtain ⟨l, hl1, hl2, hl3⟩ := ih (by omega)
          obtain ⟨r, hr1, hr2⟩ := hall n (by omega)
          refine ⟨l ++ [r], by simp [hl1], fun i q hq => ?_, fun q hq => ?_⟩
          · rcases Nat.lt_or_ge i l.length with h1 | h1
            · rw [List.getElem?_append_left h1] at hq
              exact hl2 i q hq
            · rw [List.getElem?_append_right h1] at hq
              have hi0 : i - l.length = 0 := by
                rcases Nat.eq_zero_or_pos (i - l.length) with h2 | h2
                · exact h2
                · rw [List.getElem?_eq_none (by simp; omega)] at hq; cases hq
              rw [hi0] at hq
              simp at hq
              subst hq
              obtain rfl : i = n := by omega
              exact hr2
          · rcases List.mem_append.1 hq with h1 | h1
            · exact hl3 q h1
            · simp at h1; subst h1; exact hr1
      obtain ⟨l, hl1, hl2, hl3⟩ := hlist len (Nat.le_refl _)
      exact ⟨l, hl1, .inr ⟨x.block, x.off, congrArg some hx0, fun i v hv => vat_of (fun j u hj => hl2 i v hv j u hj)⟩, hl3⟩
end
end Go.Proofs.Ytpbdgfgjlccapaa.cw
