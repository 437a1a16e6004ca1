/-
  append of a whole slice of integers onto a slice of the call's own, whatever the slice's address. For whatever program.
-/
import Derived.Test.YtpbdgfgjlccapaaOwn
namespace Go.Proofs.Ytpbdgfgjlccapaa.ba
open Go.RowKit
set_option maxRecDepth 8000
set_option linter.unusedVariables false

theorem Ints.shorter {k : IntKind} {w : World} {a : Option Addr} {n len : Nat} {Z : Nat → Int} (h : Ints k w a len Z) (hn : n ≤ len) : Ints k w a n Z := by
  rcases h with h | ⟨b, off, rfl, h⟩
  · exact .inl (by omega)
  · exact .inr ⟨b, off, rfl, fun i hi => h i (by omega)⟩

/-- The first m numbers, as a list. -/
def listOf (Z : Nat → Int) (m : Nat) : List Int := (List.range m).map Z
theorem listOf_length (Z : Nat → Int) (m : Nat) : (listOf Z m).length = m := by simp [listOf]
theorem listOf_getD (Z : Nat → Int) (m i : Nat) (h : i < m) : (listOf Z m).getD i 0 = Z i := by simp [listOf, List.getD, h]

theorem run_append_ints {P : Program} (w : World) (base : Nat) (t ty e : TypeId) (k : IntKind) (i : TypeInfo) (z : Value) (bytes : Nat) (ht : P.underlying t = some (.slice e)) (hi : P.info? e = some i) (hz : i.zero = some z)
    (hsize : i.size = 1) (hby : i.bytes = bytes) (hzs : z.cells.size = 1) (v : Value) (n : Nat) (l : List Int) (hown : w.ownsRow base e 1 v n (l.map (Value.int k)))
    (a : Option Addr) (m c : Nat) (Z : Nat → Int) (hI : Ints k w a m Z) (h63 : n + m ≤ 1073741824) (hbytes : bytes ≤ 1024) (hbase : base ≤ w.heap.size) :
    ∃ v' w', (Builtin.append_ #[t, t] ty #[v, .slice a m c]).run P w = .ok v' w' ∧ w'.ownsRow base e 1 v' (n + m) ((l ++ listOf Z m).map (Value.int k)) ∧ w.grownBy w' v.ownBlock := by
  have hb : (n + m) * bytes ≤ 140737488355328 := by
    have : (n + m) * bytes ≤ 1073741824 * 1024 := Nat.mul_le_mul h63 hbytes
    omega
  by_cases hm : m = 0
  · subst hm
    refine ⟨v, w, ?_, by simpa [listOf] using hown, ⟨rfl, rfl, rfl, Nat.le_refl _, fun _ _ _ => rfl⟩⟩
    have hl : ∀ a, (loadCells a 0).run P w = .ok #[] w := fun _ => rfl
    have hs : ∀ a, (storeCells a []).run P w = .ok () w := fun _ => rfl
    rcases hown.2 with ⟨rfl, rfl⟩ | ⟨g, cap, cur, rfl, _, hg, hn, _⟩
    · cases a <;> simp [Builtin.append_, run_underlying ht, sizeOf, typeInfo, hi, Builtin.lenOf, Builtin.firstCells, hl]
    · cases a <;> simp [Builtin.append_, run_underlying ht, sizeOf, typeInfo, hi, Builtin.lenOf, Builtin.firstCells, hn, hl, hs]
  · rcases hI with h0 | ⟨b, off, rfl, hc⟩
    · omega
    · obtain ⟨v', w', hr, h2, h3, _⟩ := run_append_own (P := P) w base t ty e i z 1 bytes ht hi hz hsize hby hzs (by decide) v n _ hown ⟨b, off, none⟩ m c ((listOf Z m).map (Value.int k)) (by simp [listOf]) (by
          intro j u hu
          rw [List.getElem?_map] at hu
          have hj : j < m := by
            rcases Nat.lt_or_ge j m with h | h
            · exact h
            · rw [List.getElem?_eq_none (by simp [listOf]; omega)] at hu; simp at hu
          simp [listOf, hj] at hu
          subst hu
          rw [Addr.add_lit]
          exact hc j hj) (by simp [Value.oneCell']) (by unfold maxLen; omega) hb hbase
      exact ⟨v', w', hr, by rw [List.map_append]; exact h2, h3⟩

theorem wpList_append_ints {P : Program} {w : World} {ops : Array Oper} {rest : List Oper} {o : Oper} {ac : Act} {Q : Exit → Act → World → Prop} (hgd : o.guard = none) (s x : Operand) (t : TypeId)
    (ho : o.op = .call { callee := .builtin .append, args := #[s, x], argTypes := #[t, t] })
    (base : Nat) (e : TypeId) (k : IntKind) (i : TypeInfo) (z : Value) (bytes : Nat) (ht : P.underlying t = some (.slice e)) (hi : P.info? e = some i) (hz : i.zero = some z)
    (hsize : i.size = 1) (hby : i.bytes = bytes) (hzs : z.cells.size = 1) (v : Value) (n : Nat) (l : List Int) (hs : ac.eval s = v) (hown : w.ownsRow base e 1 v n (l.map (Value.int k)))
    (a : Option Addr) (m c : Nat) (Z : Nat → Int) (hx : ac.eval x = .slice a m c) (hI : Ints k w a m Z) (h63 : n + m ≤ 1073741824) (hbytes : bytes ≤ 1024) (hbase : base ≤ w.heap.size)
    (h : ∀ v' w', w'.ownsRow base e 1 v' (n + m) ((l ++ listOf Z m).map (Value.int k)) → w.grownBy w' v.ownBlock → wpList P ops Q rest (ac.put o.dst v') w') :
    wpList P ops Q (o :: rest) ac w := by
  obtain ⟨v', w', hr, h2, h3⟩ := run_append_ints (P := P) w base t o.type e k i z bytes ht hi hz hsize hby hzs v n l hown a m c Z hI h63 hbytes hbase
  refine wpList_plain hgd fun K' hK' => ?_
  unfold Oper.wp execOp
  simp only [ho, resolve, invoke, builtin, Sem.run_bind, Sem.run_pure, Result.andThen_ok, List.map_toArray, List.map_cons, List.map_nil, hs, hx, hr]
  exact hK' _ _ (h v' w' h2 h3)
end Go.Proofs.Ytpbdgfgjlccapaa.ba
