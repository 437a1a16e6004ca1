/-
  Records that came in, opened: one by value, a slice of them.
-/
import Derived.Test.YtaekpejpcafnkaaRecN
import Derived.Test.YtaekpejpcafnkaaMa
import Derived.OpenShut
import Derived.Lib.SmallJoins
namespace Go.Proofs.Ytaekpejpcafnkaa.rw
open Go.RowKit Go.Proofs.Ytaekpejpcafnkaa.fl Go.Proofs.Ytaekpejpcafnkaa.ba Go.Proofs.Ytaekpejpcafnkaa.rp Go.Deep Go.Joins Go.WideShapes Go.ChangeShapes
set_option maxRecDepth 8000
set_option linter.unusedVariables false

theorem leaves_rec : leaves Try.prog 3 30 = [(0, 5), (1, 5), (2, 5), (3, 5), (4, 5), (5, 4), (6, 28), (7, 23), (8, 9)] := by kernel_rfl
theorem cells_rec : Try.prog.cellsOf 30 = 9 := by kernel_rfl
section
variable {H : Type} {enc : TypeId × Value → H} {W : World} {base : Nat} {spare : Nat → Bool} {held : Bool}
/-- Nine leaves, each read, are a record. -/
theorem nine_leaves {F : Nat → Value → Prop} (h : ∀ o u, (o, u) ∈ leaves Try.prog 3 30 → ∃ (v : Value) (y : DataW H × List MemPlace) (m : Nat), F o v ∧ DataW.trod enc Try.prog W base spare held m u [v] = some y) :
    ∃ r : R, r.ok ∧ ∀ c v, (cellsOf r)[c]? = some v → F c v := by
  rw [leaves_rec] at h
  obtain ⟨v0, y0, m0, c0, t0⟩ := h 0 5 (by simp)
  obtain ⟨n0, e0, _, w0⟩ := DataW.trod_int Try.underlying5 t0
  obtain ⟨v1, y1, m1, c1, t1⟩ := h 1 5 (by simp)
  obtain ⟨n1, e1, _, w1⟩ := DataW.trod_int Try.underlying5 t1
  obtain ⟨v2, y2, m2, c2, t2⟩ := h 2 5 (by simp)
  obtain ⟨n2, e2, _, w2⟩ := DataW.trod_int Try.underlying5 t2
  obtain ⟨v3, y3, m3, c3, t3⟩ := h 3 5 (by simp)
  obtain ⟨n3, e3, _, w3⟩ := DataW.trod_int Try.underlying5 t3
  obtain ⟨v4, y4, m4, c4, t4⟩ := h 4 5 (by simp)
  obtain ⟨n4, e4, _, w4⟩ := DataW.trod_int Try.underlying5 t4
  obtain ⟨v5, y5, m5, c5, t5⟩ := h 5 4 (by simp)
  obtain ⟨n5, e5, _⟩ := DataW.trod_bool Try.underlying4 t5
  obtain ⟨v6, y6, m6, c6, t6⟩ := h 6 28 (by simp)
  obtain ⟨n6, e6, _, w6⟩ := DataW.trod_int Try.underlying28 t6
  obtain ⟨v7, y7, m7, c7, t7⟩ := h 7 23 (by simp)
  obtain ⟨n7, e7, _, w7⟩ := DataW.trod_int Try.underlying23 t7
  obtain ⟨v8, y8, m8, c8, t8⟩ := h 8 9 (by simp)
  obtain ⟨n8, e8, _, w8⟩ := DataW.trod_string Try.underlying9 t8
  simp only [List.cons.injEq, and_true] at e0 e1 e2 e3 e4 e5 e6 e7 e8
  subst e0 e1 e2 e3 e4 e5 e6 e7 e8
  refine ⟨⟨n0, n1, n2, n3, n4, n5, n6, n7, n8⟩, ⟨bounds_u8 w0, bounds_u8 w1, bounds_u8 w2, bounds_u8 w3, bounds_u8 w4, bounds_u32 w6, bounds_u64 w7, by unfold maxLen at w8; simp only; omega⟩, fun c v hv => ?_⟩
  match c, hv with
  | 0, hv => cases hv; exact c0
  | 1, hv => cases hv; exact c1
  | 2, hv => cases hv; exact c2
  | 3, hv => cases hv; exact c3
  | 4, hv => cases hv; exact c4
  | 5, hv => cases hv; exact c5
  | 6, hv => cases hv; exact c6
  | 7, hv => cases hv; exact c7
  | 8, hv => cases hv; exact c8
  | c + 9, hv => simp [cellsOf] at hv
/-- A record by value. -/
theorem open_rec {r0 : Reach} {b0 : Nat} {v : Value} {d : DataW H} {p : List MemPlace} (hv : Value.okWide Try.prog W r0 b0 30 v) (h : DataW.Trod enc Try.prog W base spare held 30 v d p) : ∃ r : R, v = .agg #[.int .u8 r.k, .int .u8 r.s, .int .u8 r.u, .int .u8 r.p, .int .u8 r.m, .bool r.g, .int .u32 r.v, .int .u64 r.a, .string r.t] ∧ r.ok := by
  obtain ⟨cs, rfl, hsz⟩ := okWide_struct Try.underlying30 hv
  rw [cells_rec] at hsz
  obtain ⟨fuel, hf⟩ := h
  obtain ⟨r, hr, hc⟩ := nine_leaves (F := fun o v => cs[o]? = some v) (fun o u hou => by
    obtain ⟨v, y, m, h1, h2⟩ := trod_leaf 3 30 fuel _ _ o u hou hf
    exact ⟨v, y, m, by simpa [Value.cells] using h1, h2⟩)
  refine ⟨r, ?_, hr⟩
  congr 1
  refine Array.ext_getElem? fun i => ?_
  cases hi : (cellsOf r)[i]? with
  | some v => rw [hc i v hi]; exact hi.symm
  | none =>
    have h9 : 9 ≤ i := by
      have := Array.getElem?_eq_none_iff.1 hi
      simpa [cellsOf] using this
    rw [Array.getElem?_eq_none (by omega)]
    exact hi.symm
/-- A slice of records. -/
theorem open_recs {a : Option Addr} {len cap : Nat} {d : DataW H} {p : List MemPlace} (h : DataW.Trod enc Try.prog W base spare held 43 (.slice a len cap) d p) : len ≤ cap ∧ cap ≤ maxLen ∧ ∃ l : List R, l.length = len ∧ Recs W a l ∧ ∀ r ∈ l, r.ok := by
  obtain ⟨fuel, hf⟩ := h
  rcases slice_leaves (n := 3) Try.underlying43 hf with h0 | ⟨x, len', cap', hcs, hl, hm, hi⟩
  · simp [Value.cells] at h0
    obtain ⟨rfl, rfl, rfl⟩ := h0
    exact ⟨Nat.le_refl _, Nat.zero_le _, [], rfl, .inl rfl, by simp⟩
  · simp [Value.cells] at hcs
    obtain ⟨rfl, rfl, rfl⟩ := hcs
    refine ⟨hl, hm, ?_⟩
    rw [cells_rec] at hi
    by_cases h0 : len = 0
    · subst h0; exact ⟨[], rfl, .inl rfl, by simp⟩
    · have hx0 : x = ⟨x.block, x.off, none⟩ := by
        obtain ⟨v0, y0, m0, c0, t0⟩ := hi 0 (by omega) 0 5 (by rw [leaves_rec]; simp) (by omega)
        exact spot_out (by simpa using c0)
      have hall : ∀ i, i < len → ∃ r : R, r.ok ∧ ∀ c v, (cellsOf r)[c]? = some v → W.cell? ⟨x.block, x.off + i * 9 + c, none⟩ = some v := fun i hlt =>
        nine_leaves (enc := enc) (base := base) (spare := spare) (held := held) (F := fun o v => W.cell? ⟨x.block, x.off + i * 9 + o, none⟩ = some v) (fun o u hou => by
          obtain ⟨v, y, m, h1, h2⟩ := hi i hlt o u hou (by
            rw [leaves_rec] at hou
            simp at hou
            omega)
          refine ⟨v, y, m, ?_, h2⟩
          have := cell_out h1
          rwa [← Nat.add_assoc] at this)
      have hlist : ∀ n, n ≤ len → ∃ l : List R, l.length = n ∧ (∀ i r, l[i]? = some r → ∀ c v, (cellsOf r)[c]? = some v → W.cell? ⟨x.block, x.off + i * 9 + c, none⟩ = some v) ∧ ∀ r ∈ l, r.ok := by
        intro n
        induction n with
        | zero => exact fun _ => ⟨[], rfl, by simp, by simp⟩
        | succ n ih =>
          intro hn
          obtain ⟨l, hl1, hl2, hl3⟩ := ih (by omega)
          obtain ⟨r, hr1, hr2⟩ := hall n (by omega)
          refine ⟨l ++ [r], by simp [hl1], fun i q hq => ?_, fun q hq => ?_⟩
          · rcases Nat.lt_or_ge i l.length with h1 | h1
            · rw [List.getElem?_append_left h1] at hq
              exact hl2 i q hq
            · rw [List.getElem?_append_right h1] at hq
              have hi0 : i - l.length = 0 := by
                rcases Nat.eq_zero_or_pos (i - l.length) with h2 | h2
                · exact h2
                · rw [List.getElem?_eq_none (by simp; omega)] at hq; cases hq
              rw [hi0] at hq
              simp at hq
              subst hq
              obtain rfl : i = n := by omega
              exact hr2
          · rcases List.mem_append.1 hq with h1 | h1
            · exact hl3 q h1
            · simp at h1; subst h1; exact hr1
      obtain ⟨l, hl1, hl2, hl3⟩ := hlist len (Nat.le_refl _)
      exact ⟨l, hl1, .inr ⟨x.block, x.off, congrArg some hx0, hl2⟩, hl3⟩
end
end Go.Proofs.Ytaekpejpcafnkaa.rw
