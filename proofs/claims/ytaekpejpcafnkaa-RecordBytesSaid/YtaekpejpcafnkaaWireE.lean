/-
  The walks of layer 3's law: fields, cut to right ones.
-/
import Derived.Test.YtaekpejpcafnkaaWireD
namespace Go.Proofs.Ytaekpejpcafnkaa.ww
open Go.RowKit Go.Proofs.Ytaekpejpcafnkaa.ba Go.Proofs.Ytaekpejpcafnkaa.dp Go.Proofs.Ytaekpejpcafnkaa.wp Go.Proofs.Ytaekpejpcafnkaa.dw
set_option maxRecDepth 8000
set_option linter.unusedVariables false

/-- A field: its kind, its number, its text. -/
abbrev Fld := Nat × Nat × ByteArray
def fcells (f : Fld) : List Value := [.int .i64 f.1, .int .u64 f.2.1, .string f.2.2]
def good (f : Fld) : Prop := f.1 < 5 ∧ f.2.1 < 18446744073709551616 ∧ f.2.2.size ≤ 200
/-- Fields in memory. -/
def FL (w : World) (a : Option Addr) (F : List Fld) : Prop :=
  F = [] ∨ ∃ b off, a = some ⟨b, off, none⟩ ∧ ∀ i f, F[i]? = some f → w.cell? ⟨b, off + i * 3, none⟩ = some (.int .i64 f.1) ∧ w.cell? ⟨b, off + i * 3 + 1, none⟩ = some (.int .u64 f.2.1) ∧ w.cell? ⟨b, off + i * 3 + 2, none⟩ = some (.string f.2.2)
/-- Whatever fields in memory. -/
def RawF (w : World) (a : Option Addr) (len : Nat) : Prop :=
  len = 0 ∨ ∃ b off, a = some ⟨b, off, none⟩ ∧ ∀ i, i < len → ∃ (k n : Int) (s : ByteArray), -9223372036854775808 ≤ k ∧ k ≤ 9223372036854775807 ∧ 0 ≤ n ∧ n ≤ 18446744073709551615 ∧ s.size ≤ 9223372036854775807 ∧ w.cell? ⟨b, off + i * 3, none⟩ = some (.int .i64 k) ∧ w.cell? ⟨b, off + i * 3 + 1, none⟩ = some (.int .u64 n) ∧ w.cell? ⟨b, off + i * 3 + 2, none⟩ = some (.string s)

theorem FL.below {w w' : World} {a : Option Addr} {F : List Fld} (h : FL w a F) (hb : Below w.heap.size w w') : FL w' a F := by
  rcases h with h | ⟨b, off, rfl, h⟩
  · exact .inl h
  · refine .inr ⟨b, off, rfl, fun i f hf => ?_⟩
    obtain ⟨h1, h2, h3⟩ := h i f hf
    exact ⟨bsome hb h1 (World.block_lt_of_cell? _ _ h1), bsome hb h2 (World.block_lt_of_cell? _ _ h2), bsome hb h3 (World.block_lt_of_cell? _ _ h3)⟩
theorem flat_at (F : List Fld) : ∀ (i j : Nat) (f : Fld) (v : Value), F[i]? = some f → (fcells f)[j]? = some v → (F.flatMap fcells)[i * 3 + j]? = some v := by
  induction F with
  | nil => intro i j f v h; simp at h
  | cons x xs ih =>
    intro i j f v h hj
    have hlj : j < 3 := by
      rcases Nat.lt_or_ge j 3 with h1 | h1
      · exact h1
      · rw [List.getElem?_eq_none (by simpa [fcells] using h1)] at hj; cases hj
    rw [List.flatMap_cons]
    cases i with
    | zero =>
      simp at h
      subst h
      rw [List.getElem?_append_left (by simp [fcells]; omega), Nat.zero_mul, Nat.zero_add]
      exact hj
    | succ i =>
      rw [List.getElem?_append_right (by simp [fcells]; omega), show (i + 1) * 3 + j - (fcells x).length = i * 3 + j from by simp [fcells]; omega]
      exact ih i j f v (by simpa using h) hj
theorem FL.own {w : World} {base : Nat} {e : TypeId} {a : Option Addr} {n cap : Nat} {F : List Fld} (h : w.ownsRow base e 3 (.slice a n cap) n (F.flatMap fcells)) : FL w a F := by
  rcases h.2 with ⟨hv, h0⟩ | ⟨g, cap', cur, hv, _⟩
  · left
    cases F with
    | nil => rfl
    | cons x xs => have := h.1; simp [fcells] at this; omega
  · cases hv
    refine .inr ⟨g, 0, rfl, fun i f hf => ?_⟩
    have hc := h.cells (g := g) rfl
    refine ⟨?_, ?_, ?_⟩
    · have := hc (i * 3 + 0) _ (flat_at F i 0 f _ hf rfl)
      rw [Addr.add_lit] at this
      simpa using this
    · have := hc (i * 3 + 1) _ (flat_at F i 1 f _ hf rfl)
      rw [Addr.add_lit] at this
      simpa using this
    · have := hc (i * 3 + 2) _ (flat_at F i 2 f _ hf rfl)
      rw [Addr.add_lit] at this
      simpa using this

theorem infoF : (Try.prog.info? 56).map (fun i => (i.zero, i.size, i.bytes)) = some (some (.agg #[.int .i64 0, .int .u64 0, .string ⟨#[]⟩]), 3, 32) := by kernel_rfl
theorem kind_bound (k : Int) : ∃ K : Nat, (IntKind.u64.wrap k).tmod 5 = (K : Int) ∧ K < 5 := by
  have h : 0 ≤ IntKind.u64.wrap k := by rw [IntKind.wrap_u64]; omega
  obtain ⟨n, hn⟩ := Int.eq_ofNat_of_zero_le h
  refine ⟨n % 5, ?_, by omega⟩
  rw [hn, Int.tmod_eq_emod_of_nonneg (by omega)]
  rfl

/-- append(v, y), y of some cells (laid in a block of its own first), v the call's own. -/
theorem wpList_append_blk {P : Program} {w : World} {ops : Array Oper} {rest : List Oper} {o : Oper} {a : Act} {Q : Exit → Act → World → Prop} (hgd : o.guard = none) (s x : Operand) (t : TypeId)
    (ho : o.op = .call { callee := .builtin .append, args := #[s, x], argTypes := #[t, t] })
    (base : Nat) (e : TypeId) (i : TypeInfo) (z : Value) (size bytes : Nat) (ht : P.underlying t = some (.slice e)) (hi : P.info? e = some i) (hz : i.zero = some z)
    (hsize : i.size = size) (hby : i.bytes = bytes) (hzs : z.cells.size = size) (hsz : 0 < size)
    (v : Value) (n : Nat) (xs : List Value) (hs : a.eval s = v) (hown : w.ownsRow base e size v n xs) (cs : List Value) (hcs : cs.length = size) (hy : ∀ u ∈ cs, u.oneCell' = true) (ty : TypeId) (B : Nat) (hB : B = w.heap.size)
    (hx : a.eval x = .slice (some ⟨B, 0, none⟩) 1 1) (hn : n ≤ 1000000) (hb : bytes ≤ 1024) (hbase : base ≤ w.heap.size)
    (h : ∀ v' w', w'.ownsRow base e size v' (n + 1) (xs ++ cs) → (w.alloc (.cells cs.toArray ty)).grownBy w' v.ownBlock → wpList P ops Q rest (a.put o.dst v') w') :
    wpList P ops Q (o :: rest) a (w.alloc (.cells cs.toArray ty)) := by
  subst hB
  refine wpList_append_own _ hgd s x t ho base e i z size bytes ht hi hz hsize hby hzs hsz v n xs hs (hown.alloc _) ⟨w.heap.size, 0, none⟩ 1 1 cs hx (by rw [hcs, Nat.one_mul]) ?_ hy ?_ ?_ ?_ ?_
  · intro j u hj
    rw [Addr.add_lit, Nat.zero_add, (Blk.new w ty cs.toArray).cell]
    simpa using hj
  · unfold maxLen; omega
  · have : (n + 1) * bytes ≤ 1000001 * 1024 := Nat.mul_le_mul (by omega) hb
    omega
  · simp; omega
  · intro v' w' h1 h2 _
    exact h v' w' h1 h2

def RightOk (m : Nat) (w w' : World) (x : Ending) : Prop := ∃ (F : List Fld) (a : Option Addr) (c : Nat), x = .returned (.slice a F.length c) ∧ FL w' a F ∧ F.length ≤ m ∧ (∀ f ∈ F, good f) ∧ Below w.heap.size w w'

end Go.Proofs.Ytaekpejpcafnkaa.ww
