/-
  Small helpers that all walks share.
-/
import Derived.Test.YtpbdgfgjlccapaaRows
import Derived.WalkKit
import Derived.WalkSpells
import Derived.WalkLawsBesides
import Derived.Lib.Hide
import Derived.OneCell
namespace Go.Proofs.Ytpbdgfgjlccapaa.ba
open Go.RowKit
set_option maxRecDepth 8000

theorem ret_int {k : IntKind} {a b : Int} (h : a = b) : Ending.returned (.int k a) = .returned (.int k b) := by rw [h]
theorem ret_bool {a b : Bool} (h : a = b) : Ending.returned (.bool a) = .returned (.bool b) := by rw [h]
theorem ret_two {a b c d : Value} (h : a = c) (h2 : b = d) : Ending.returned (.tuple #[a, b]) = .returned (.tuple #[c, d]) := by rw [h, h2]
theorem ret_three {a b x c d y : Value} (h : a = c) (h2 : b = d) (h3 : x = y) : Ending.returned (.tuple #[a, b, x]) = .returned (.tuple #[c, d, y]) := by rw [h, h2, h3]
theorem bthen {W a b : World} (h : Below W.heap.size W a) (k : Below a.heap.size a b) : Below W.heap.size W b := h.trans (k.mono h.size)
theorem bsome {B : Nat} {w w' : World} {p : Addr} {v : Value} (hb : Below B w w') (h : w.cell? p = some v) (hlt : p.block < B) : w'.cell? p = some v := (hb.cell hlt).trans h

theorem bdrew {B : Nat} {w w' : World} (h : Below B w w') (n : Nat) : Below B w (w'.drewN n) := ⟨h.os, h.tape, h.output, h.size, h.block⟩

theorem toList_inj {a b : ByteArray} (h : a.toList = b.toList) : a = b := by
  rw [ByteArray.toList_eq, ByteArray.toList_eq] at h
  cases a
  cases b
  congr 1
  exact Array.toList_inj.1 h
theorem str_ne {a b : ByteArray} (h : a ≠ b) : (a.toList == b.toList) = false := by
  rw [beq_eq_false_iff_ne]
  exact fun e => h (toList_inj e)

/-- Numbers that lie behind a slice's address: the first 'len' cells. -/
def Ints (k : IntKind) (w : World) (a : Option Addr) (len : Nat) (Z : Nat → Int) : Prop :=
  len = 0 ∨ ∃ b off, a = some ⟨b, off, none⟩ ∧ ∀ i, i < len → w.cell? ⟨b, off + i, none⟩ = some (.int k (Z i))

theorem Ints.below {k : IntKind} {w w' : World} {a : Option Addr} {len : Nat} {Z : Nat → Int} (h : Ints k w a len Z) (hb : Below w.heap.size w w') : Ints k w' a len Z := by
  rcases h with h | ⟨b, off, rfl, h⟩
  · exact .inl h
  · exact .inr ⟨b, off, rfl, fun i hi => bsome hb (h i hi) (World.block_lt_of_cell? w _ (h i hi))⟩

theorem Ints.mono {k : IntKind} {w : World} {a : Option Addr} {len len' : Nat} {Z : Nat → Int} (h : Ints k w a len Z) (hl : len' ≤ len) : Ints k w a len' Z := by
  rcases h with h | ⟨b, off, rfl, h⟩
  · exact .inl (by omega)
  · exact .inr ⟨b, off, rfl, fun i hi => h i (by omega)⟩

theorem Ints.congr {k : IntKind} {w : World} {a : Option Addr} {len : Nat} {Z Z' : Nat → Int} (h : Ints k w a len Z) (he : ∀ i, i < len → Z i = Z' i) : Ints k w a len Z' := by
  rcases h with h | ⟨b, off, rfl, h⟩
  · exact .inl h
  · exact .inr ⟨b, off, rfl, fun i hi => by rw [← he i hi]; exact h i hi⟩

/-- What the call owns can be read. -/
theorem Ints.own {k : IntKind} {w : World} {base : Nat} {e : TypeId} {a : Option Addr} {n cap : Nat} {l : List Int} (h : w.ownsRow base e 1 (.slice a n cap) n (l.map (Value.int k))) : Ints k w a n (fun i => l.getD i 0) := by
  have hlen := h.1
  rcases h.2 with ⟨hv, rfl⟩ | ⟨g, cap', cur, hv, _, hg, _, _, _, htake⟩
  · exact .inl rfl
  · simp only [Value.slice.injEq] at hv
    obtain ⟨rfl, _, rfl⟩ := hv
    refine .inr ⟨g, 0, rfl, fun i hi => ?_⟩
    rw [Nat.zero_add, cell_of_row w g i cur e (0, 0) hg]
    have h1 : (cur.toList.take (n * 1))[i]? = some (.int k (l.getD i 0)) := by
      rw [htake]
      simp only [List.length_map] at hlen
      have hi' : i < l.length := by omega
      simp [List.getD, hi']
    rw [List.getElem?_take] at h1
    split at h1
    · simpa using h1
    · cases h1

/-- append(v, y), y of one cell (laid in a block of its own first), v the call's own. -/
theorem wpList_append_one {P : Program} {w : World} {ops : Array Oper} {rest : List Oper} {o : Oper} {a : Act} {Q : Exit → Act → World → Prop} (hgd : o.guard = none) (s x : Operand) (t : TypeId)
    (ho : o.op = .call { callee := .builtin .append, args := #[s, x], argTypes := #[t, t] })
    (base : Nat) (e : TypeId) (i : TypeInfo) (z : Value) (bytes : Nat) (ht : P.underlying t = some (.slice e)) (hi : P.info? e = some i) (hz : i.zero = some z)
    (hsize : i.size = 1) (hby : i.bytes = bytes) (hzs : z.cells.size = 1)
    (v : Value) (n : Nat) (xs : List Value) (hs : a.eval s = v) (hown : w.ownsRow base e 1 v n xs) (y : Value) (hy : y.oneCell' = true) (ty : TypeId)
    (hx : a.eval x = .slice (some ⟨w.heap.size, 0, none⟩) 1 1) (hn : n ≤ 1073741824) (hb : bytes ≤ 1024) (hbase : base ≤ w.heap.size)
    (h : ∀ v' w', w'.ownsRow base e 1 v' (n + 1) (xs ++ [y]) → (w.alloc (.cells #[y] ty)).grownBy w' v.ownBlock → wpList P ops Q rest (a.put o.dst v') w') :
    wpList P ops Q (o :: rest) a (w.alloc (.cells #[y] ty)) := by
  refine wpList_append_own _ hgd s x t ho base e i z 1 bytes ht hi hz hsize hby hzs (by decide) v n xs hs (hown.alloc _) ⟨w.heap.size, 0, none⟩ 1 1 [y] hx rfl ?_ ?_ ?_ ?_ ?_ ?_
  · intro j u hj
    match j, hj with
    | 0, hj =>
      simp at hj
      subst hj
      rw [show (⟨w.heap.size, 0, none⟩ : Addr).add 0 = ⟨w.heap.size, 0, none⟩ from rfl, World.cell?_alloc_at _ _ _ _ rfl]
      rfl
  · intro u hu
    simp at hu
    subst hu
    exact hy
  · unfold maxLen; omega
  · have : (n + 1) * bytes ≤ 1073741825 * 1024 := Nat.mul_le_mul (by omega) hb
    omega
  · simp; omega
  · intro v' w' h1 h2 _
    exact h v' w' h1 h2

/-- What an append to the call's own slice, laid from 'base' on, leaves of older memory. -/
theorem below_append {B : Nat} {W w w' : World} {o : Obj} {v : Value} {base : Nat} {e : TypeId} {size n : Nat} {xs : List Value} (h : Below B W w) (hB : B ≤ w.heap.size) (hown : w.ownsRow base e size v n xs) (hbase : B ≤ base)
    (hg : (w.alloc o).grownBy w' v.ownBlock) : Below B W w' :=
  (h.alloc hB o).grown hg (by simp; omega) (fun k hk => by have := hown.lt k hk; omega)

/-- What the call owns stays so while others only make memory. -/
theorem own_below {w w' : World} {base : Nat} {e : TypeId} {size n : Nat} {v : Value} {xs : List Value} (h : w.ownsRow base e size v n xs) (hb : Below w.heap.size w w') : w'.ownsRow base e size v n xs :=
  h.kept (row := none) ⟨hb.os, hb.tape, hb.output, hb.size, fun j hj _ => hb.block j hj⟩ (by cases v.ownBlock <;> simp)

/-- A slice of numbers in new memory, handed back. -/
def OwnInts (e : TypeId) (k : IntKind) (w w' : World) (l : List Int) (x : Ending) : Prop :=
  ∃ a cap, x = .returned (.slice a l.length cap) ∧ w'.ownsRow w.heap.size e 1 (.slice a l.length cap) l.length (l.map (Value.int k)) ∧ Below w.heap.size w w'

/-- What owns is a slice value of that length. -/
theorem own_form {w : World} {base : Nat} {e : TypeId} {size n : Nat} {v : Value} {xs : List Value} (h : w.ownsRow base e size v n xs) : ∃ a cap, v = .slice a n cap ∧ n ≤ cap ∧ cap ≤ maxLen := by
  rcases h.2 with ⟨rfl, rfl⟩ | ⟨g, cap, cur, rfl, _, _, h1, h2, _⟩
  · exact ⟨none, 0, rfl, Nat.le_refl _, Nat.zero_le _⟩
  · exact ⟨_, cap, rfl, h1, h2⟩
end Go.Proofs.Ytpbdgfgjlccapaa.ba
