/-
  Small helpers that all walks share.
  A slice of the call's own that may begin within its array (behind 'x = x[1:]'): what it holds, and append onto it. For whatever program.
  append of a whole slice of integers onto a slice of the call's own, whatever the slice's address. For whatever program.
  Slices as lists of numbers. For whatever program.
  append of a slice that reads as a list of numbers; a new literal as a row of the call's own. For whatever program.
  x[k:] and x[:k] of a slice that reads as a list, as one equation, whatever the capacity. For whatever program.
  Readings of arguments, leaf by leaf: a struct's (or nested structs') cells that are bools, numbers, strings or slices, each with its own reading. For whatever program.
  A slice of bytes that came in, opened.
  A block that is known whole; what a call that writes only some blocks leaves. For whatever program.
-/
import Derived.Test.YtaekpejpcafnkaaRows
import Derived.WalkKit
import Derived.WalkSpells
import Derived.WalkLawsBesides
import Derived.Lib.Hide
import Derived.OneCell
import Derived.ArgAppend
import Derived.Deep.AppendLies
import Derived.Laws.Slices
import Derived.ProofKit
import Derived.Deep.Slices
import Derived.OpenShut
import Derived.Laws.OwnMore
import Derived.Deep.Draws
import Derived.Laws.Rows
import Derived.Maps.AppendAt
namespace Go.Proofs.Ytaekpejpcafnkaa.ba
open Go.RowKit
set_option maxRecDepth 8000

theorem ret_int {k : IntKind} {a b : Int} (h : a = b) : Ending.returned (.int k a) = .returned (.int k b) := by rw [h]
theorem ret_bool {a b : Bool} (h : a = b) : Ending.returned (.bool a) = .returned (.bool b) := by rw [h]
theorem ret_two {a b c d : Value} (h : a = c) (h2 : b = d) : Ending.returned (.tuple #[a, b]) = .returned (.tuple #[c, d]) := by rw [h, h2]
theorem ret_three {a b x c d y : Value} (h : a = c) (h2 : b = d) (h3 : x = y) : Ending.returned (.tuple #[a, b, x]) = .returned (.tuple #[c, d, y]) := by rw [h, h2, h3]
theorem bthen {W a b : World} (h : Below W.heap.size W a) (k : Below a.heap.size a b) : Below W.heap.size W b := h.trans (k.mono h.size)
theorem bsome {B : Nat} {w w' : World} {p : Addr} {v : Value} (hb : Below B w w') (h : w.cell? p = some v) (hlt : p.block < B) : w'.cell? p = some v := (hb.cell hlt).trans h

theorem bdrew {B : Nat} {w w' : World} (h : Below B w w') (n : Nat) : Below B w (w'.drewN n) := ⟨h.os, h.tape, h.output, h.size, h.block⟩

theorem toList_inj {a b : ByteArray} (h : a.toList = b.toList) : a = b := by
  rw [ByteArray.toList_eq, ByteArray.toList_eq] at h
  cases a
  cases b
  congr 1
  exact Array.toList_inj.1 h
theorem str_ne {a b : ByteArray} (h : a ≠ b) : (a.toList == b.toList) = false := by
  rw [beq_eq_false_iff_ne]
  exact fun e => h (toList_inj e)

/-- Numbers that lie behind a slice's address: the first 'len' cells. -/
def Ints (k : IntKind) (w : World) (a : Option Addr) (len : Nat) (Z : Nat → Int) : Prop :=
  len = 0 ∨ ∃ b off, a = some ⟨b, off, none⟩ ∧ ∀ i, i < len → w.cell? ⟨b, off + i, none⟩ = some (.int k (Z i))

theorem Ints.below {k : IntKind} {w w' : World} {a : Option Addr} {len : Nat} {Z : Nat → Int} (h : Ints k w a len Z) (hb : Below w.heap.size w w') : Ints k w' a len Z := by
  rcases h with h | ⟨b, off, rfl, h⟩
  · exact .inl h
  · exact .inr ⟨b, off, rfl, fun i hi => bsome hb (h i hi) (World.block_lt_of_cell? w _ (h i hi))⟩

theorem Ints.mono {k : IntKind} {w : World} {a : Option Addr} {len len' : Nat} {Z : Nat → Int} (h : Ints k w a len Z) (hl : len' ≤ len) : Ints k w a len' Z := by
  rcases h with h | ⟨b, off, rfl, h⟩
  · exact .inl (by omega)
  · exact .inr ⟨b, off, rfl, fun i hi => h i (by omega)⟩

theorem Ints.congr {k : IntKind} {w : World} {a : Option Addr} {len : Nat} {Z Z' : Nat → Int} (h : Ints k w a len Z) (he : ∀ i, i < len → Z i = Z' i) : Ints k w a len Z' := by
  rcases h with h | ⟨b, off, rfl, h⟩
  · exact .inl h
  · exact .inr ⟨b, off, rfl, fun i hi => by rw [← he i hi]; exact h i hi⟩

/-- What the call owns can be read. -/
theorem Ints.own {k : IntKind} {w : World} {base : Nat} {e : TypeId} {a : Option Addr} {n cap : Nat} {l : List Int} (h : w.ownsRow base e 1 (.slice a n cap) n (l.map (Value.int k))) : Ints k w a n (fun i => l.getD i 0) := by
  have hlen := h.1
  rcases h.2 with ⟨hv, rfl⟩ | ⟨g, cap', cur, hv, _, hg, _, _, _, htake⟩
  · exact .inl rfl
  · simp only [Value.slice.injEq] at hv
    obtain ⟨rfl, _, rfl⟩ := hv
    refine .inr ⟨g, 0, rfl, fun i hi => ?_⟩
    rw [Nat.zero_add, cell_of_row w g i cur e (0, 0) hg]
    have h1 : (cur.toList.take (n * 1))[i]? = some (.int k (l.getD i 0)) := by
      rw [htake]
      simp only [List.length_map] at hlen
      have hi' : i < l.length := by omega
      simp [List.getD, hi']
    rw [List.getElem?_take] at h1
    split at h1
    · simpa using h1
    · cases h1

/-- append(v, y), y of one cell (laid in a block of its own first), v the call's own. -/
theorem wpList_append_one {P : Program} {w : World} {ops : Array Oper} {rest : List Oper} {o : Oper} {a : Act} {Q : Exit → Act → World → Prop} (hgd : o.guard = none) (s x : Operand) (t : TypeId)
    (ho : o.op = .call { callee := .builtin .append, args := #[s, x], argTypes := #[t, t] })
    (base : Nat) (e : TypeId) (i : TypeInfo) (z : Value) (bytes : Nat) (ht : P.underlying t = some (.slice e)) (hi : P.info? e = some i) (hz : i.zero = some z)
    (hsize : i.size = 1) (hby : i.bytes = bytes) (hzs : z.cells.size = 1)
    (v : Value) (n : Nat) (xs : List Value) (hs : a.eval s = v) (hown : w.ownsRow base e 1 v n xs) (y : Value) (hy : y.oneCell' = true) (ty : TypeId)
    (hx : a.eval x = .slice (some ⟨w.heap.size, 0, none⟩) 1 1) (hn : n ≤ 1073741824) (hb : bytes ≤ 1024) (hbase : base ≤ w.heap.size)
    (h : ∀ v' w', w'.ownsRow base e 1 v' (n + 1) (xs ++ [y]) → (w.alloc (.cells #[y] ty)).grownBy w' v.ownBlock → wpList P ops Q rest (a.put o.dst v') w') :
    wpList P ops Q (o :: rest) a (w.alloc (.cells #[y] ty)) := by
  refine wpList_append_own _ hgd s x t ho base e i z 1 bytes ht hi hz hsize hby hzs (by decide) v n xs hs (hown.alloc _) ⟨w.heap.size, 0, none⟩ 1 1 [y] hx rfl ?_ ?_ ?_ ?_ ?_ ?_
  · intro j u hj
    match j, hj with
    | 0, hj =>
      simp at hj
      subst hj
      rw [show (⟨w.heap.size, 0, none⟩ : Addr).add 0 = ⟨w.heap.size, 0, none⟩ from rfl, World.cell?_alloc_at _ _ _ _ rfl]
      rfl
  · intro u hu
    simp at hu
    subst hu
    exact hy
  · unfold maxLen; omega
  · have : (n + 1) * bytes ≤ 1073741825 * 1024 := Nat.mul_le_mul (by omega) hb
    omega
  · simp; omega
  · intro v' w' h1 h2 _
    exact h v' w' h1 h2

/-- What an append to the call's own slice, laid from 'base' on, leaves of older memory. -/
theorem below_append {B : Nat} {W w w' : World} {o : Obj} {v : Value} {base : Nat} {e : TypeId} {size n : Nat} {xs : List Value} (h : Below B W w) (hB : B ≤ w.heap.size) (hown : w.ownsRow base e size v n xs) (hbase : B ≤ base)
    (hg : (w.alloc o).grownBy w' v.ownBlock) : Below B W w' :=
  (h.alloc hB o).grown hg (by simp; omega) (fun k hk => by have := hown.lt k hk; omega)

/-- What the call owns stays so while others only make memory. -/
theorem own_below {w w' : World} {base : Nat} {e : TypeId} {size n : Nat} {v : Value} {xs : List Value} (h : w.ownsRow base e size v n xs) (hb : Below w.heap.size w w') : w'.ownsRow base e size v n xs :=
  h.kept (row := none) ⟨hb.os, hb.tape, hb.output, hb.size, fun j hj _ => hb.block j hj⟩ (by cases v.ownBlock <;> simp)

/-- A slice of numbers in new memory, handed back. -/
def OwnInts (e : TypeId) (k : IntKind) (w w' : World) (l : List Int) (x : Ending) : Prop :=
  ∃ a cap, x = .returned (.slice a l.length cap) ∧ w'.ownsRow w.heap.size e 1 (.slice a l.length cap) l.length (l.map (Value.int k)) ∧ Below w.heap.size w w'

/-- What owns is a slice value of that length. -/
theorem own_form {w : World} {base : Nat} {e : TypeId} {size n : Nat} {v : Value} {xs : List Value} (h : w.ownsRow base e size v n xs) : ∃ a cap, v = .slice a n cap ∧ n ≤ cap ∧ cap ≤ maxLen := by
  rcases h.2 with ⟨rfl, rfl⟩ | ⟨g, cap, cur, rfl, _, _, h1, h2, _⟩
  · exact ⟨none, 0, rfl, Nat.le_refl _, Nat.zero_le _⟩
  · exact ⟨_, cap, rfl, h1, h2⟩
end Go.Proofs.Ytaekpejpcafnkaa.ba

namespace Go.Proofs.Ytaekpejpcafnkaa.ba
open Go.RowKit
set_option maxRecDepth 8000
set_option linter.unusedVariables false

/-- As 'World.ownsRow', but the slice may begin at a place within its block. -/
def ownsAt (w : World) (base : Nat) (e : TypeId) (size : Nat) (v : Value) (n : Nat) (xs : List Value) : Prop :=
  xs.length = n * size ∧
  ((v = .slice none 0 0 ∧ n = 0) ∨
   ∃ g off cap cur, v = .slice (some ⟨g, off, none⟩) n cap ∧ base ≤ g ∧ w.heap[g]? = some (.cells cur e (0, 0)) ∧ n ≤ cap ∧ cap ≤ maxLen ∧ off + cap * size ≤ cur.size ∧ (cur.toList.drop off).take (n * size) = xs)

section
variable {w : World} {base : Nat} {e : TypeId} {size : Nat} {v : Value} {n : Nat} {xs : List Value}

theorem ownsAt.of_row (h : w.ownsRow base e size v n xs) : ownsAt w base e size v n xs := by
  refine ⟨h.1, ?_⟩
  rcases h.2 with h2 | ⟨g, cap, cur, hv, hb, hg, hn, hm, hs, ht⟩
  · exact .inl h2
  · exact .inr ⟨g, 0, cap, cur, hv, hb, hg, hn, hm, by omega, by simpa using ht⟩

theorem ownsAt.nil (w : World) (base : Nat) (e : TypeId) (size : Nat) : ownsAt w base e size (.slice none 0 0) 0 [] := ⟨by simp, .inl ⟨rfl, rfl⟩⟩

theorem ownsAt.lt (h : ownsAt w base e size v n xs) : ∀ k, v.ownBlock = some k → base ≤ k ∧ k < w.heap.size := by
  intro k hk
  rcases h.2 with ⟨rfl, _⟩ | ⟨g, off, cap, cur, rfl, hb, hg, _⟩
  · simp [Value.ownBlock] at hk
  · simp [Value.ownBlock] at hk
    subst hk
    exact ⟨hb, (Array.getElem?_eq_some_iff.1 hg).1⟩

theorem ownsAt.kept {w' : World} {row : Option Nat} (h : ownsAt w base e size v n xs) (hg : w.grownBy w' row) (hne : v.ownBlock = none ∨ v.ownBlock ≠ row) : ownsAt w' base e size v n xs := by
  refine ⟨h.1, ?_⟩
  rcases h.2 with hn | ⟨g, off, cap, cur, rfl, hb, hgg, rest⟩
  · exact .inl hn
  · refine .inr ⟨g, off, cap, cur, rfl, hb, ?_, rest⟩
    rw [hg.block g (Array.getElem?_eq_some_iff.1 hgg).1 (by simpa [Value.ownBlock] using hne)]
    exact hgg

theorem ownsAt.alloc (h : ownsAt w base e size v n xs) (o : Obj) : ownsAt (w.alloc o) base e size v n xs :=
  h.kept (World.grownBy_alloc w o none) (by cases hv : v.ownBlock <;> simp)

theorem ownsAt.drew (h : ownsAt w base e size v n xs) : ownsAt w.drew base e size v n xs := h

theorem ownsAt.form (h : ownsAt w base e size v n xs) : ∃ a cap, v = .slice a n cap ∧ n ≤ cap ∧ cap ≤ maxLen := by
  rcases h.2 with ⟨rfl, rfl⟩ | ⟨g, off, cap, cur, rfl, _, _, h1, h2, _⟩
  · exact ⟨none, 0, rfl, Nat.le_refl _, Nat.zero_le _⟩
  · exact ⟨_, cap, rfl, h1, h2⟩

/-- The cells that it holds. -/
theorem ownsAt.cells (h : ownsAt w base e size v n xs) (hn : 0 < n) : ∃ g off cap, v = .slice (some ⟨g, off, none⟩) n cap ∧ n ≤ cap ∧ base ≤ g ∧ g < w.heap.size ∧ (∃ cur, w.heap[g]? = some (.cells cur e (0, 0))) ∧
    ∀ j u, xs[j]? = some u → w.cell? ⟨g, off + j, none⟩ = some u := by
  rcases h.2 with ⟨_, h0⟩ | ⟨g, off, cap, cur, rfl, hb, hg, hn, hm, hs, ht⟩
  · omega
  · refine ⟨g, off, cap, rfl, hn, hb, (Array.getElem?_eq_some_iff.1 hg).1, ⟨cur, hg⟩, fun j u hu => ?_⟩
    rw [cell_of_row w g (off + j) cur e (0, 0) hg]
    rw [← ht, List.getElem?_take] at hu
    split at hu
    · rw [List.getElem?_drop] at hu
      simpa using hu
    · cases hu

/-- 'x = x[1:]' where one more is behind the first, or room. -/
theorem ownsAt.tail {g off cap : Nat} (h : ownsAt w base e size (.slice (some ⟨g, off, none⟩) (n + 1) cap) (n + 1) xs) (hc : 1 < cap) : ownsAt w base e size (.slice (some ⟨g, off + size, none⟩) n (cap - 1)) n (xs.drop size) := by
  have hl := h.1
  rcases h.2 with ⟨h0, _⟩ | ⟨g', off', cap', cur, hv, hb, hg, hn, hm, hs, ht⟩
  · cases h0
  · simp only [Value.slice.injEq, Option.some.injEq, Addr.mk.injEq] at hv
    obtain ⟨⟨rfl, rfl, _⟩, _, rfl⟩ := hv
    have e1 : (n + 1) * size = n * size + size := Nat.succ_mul n size
    have e2 : (cap - 1) * size + size = cap * size := by rw [← Nat.succ_mul]; congr 1; omega
    refine ⟨by rw [List.length_drop, hl]; omega, .inr ⟨g, off + size, cap - 1, cur, rfl, hb, hg, by omega, by omega, by omega, ?_⟩⟩
    rw [← ht, List.drop_take, List.drop_drop]
    congr 1
    omega

/-- .. where nothing is behind it (Go keeps the address). -/
theorem ownsAt.tail_last {g off : Nat} (h : ownsAt w base e size (.slice (some ⟨g, off, none⟩) 1 1) 1 xs) : ownsAt w base e size (.slice (some ⟨g, off, none⟩) 0 0) 0 [] := by
  rcases h.2 with ⟨h0, _⟩ | ⟨g', off', cap', cur, hv, hb, hg, hn, hm, hs, ht⟩
  · cases h0
  · simp only [Value.slice.injEq, Option.some.injEq, Addr.mk.injEq] at hv
    obtain ⟨⟨rfl, rfl, _⟩, _, rfl⟩ := hv
    exact ⟨by simp, .inr ⟨g, off, 0, cur, rfl, hb, hg, Nat.le_refl _, Nat.zero_le _, by omega, by simp⟩⟩
end

section
variable {P : Program} (w : World)

theorem run_append_room_off (t ty e : TypeId) (i : TypeInfo) (ht : P.underlying t = some (.slice e)) (hi : P.info? e = some i)
    (g off sLen sCap : Nat) (cur : Array Value) (hg : w.heap[g]? = some (.cells cur e (0, 0)))
    (a : Addr) (m c : Nat) (news : List Value) (hl : news.length = m * i.size) (hnews : ∀ j u, news[j]? = some u → w.cell? (a.add j) = some u) (h1 : ∀ u ∈ news, u.oneCell' = true)
    (hroom : sLen + m ≤ sCap) (hfit : off + sLen * i.size + news.length ≤ cur.size) :
    (Builtin.append_ #[t, t] ty #[.slice (some ⟨g, off, none⟩) sLen sCap, .slice (some a) m c]).run P w =
      .ok (.slice (some ⟨g, off, none⟩) (sLen + m) sCap) (w.setRow g (cur.toList.take (off + sLen * i.size) ++ news ++ cur.toList.drop (off + sLen * i.size + news.length)).toArray) := by
  have hf := run_firstCells_some (P := P) w i.size m a m c news hl hnews
  have hst := run_storeCells_at P g (off + sLen * i.size) e news 0 cur w hg (by simpa using hfit) h1
  simp only [Nat.add_zero] at hst
  simp [Builtin.append_, run_underlying ht, sizeOf, typeInfo, hi, Builtin.lenOf, hroom, hf, Addr.add_lit, hst]

theorem run_append_at (base : Nat) (t ty e : TypeId) (i : TypeInfo) (z : Value) (size bytes : Nat) (ht : P.underlying t = some (.slice e)) (hi : P.info? e = some i) (hz : i.zero = some z)
    (hsize : i.size = size) (hby : i.bytes = bytes) (hzs : z.cells.size = size) (hsz : 0 < size)
    (v : Value) (n : Nat) (xs : List Value) (hown : ownsAt w base e size v n xs)
    (a : Addr) (m c : Nat) (news : List Value) (hl : news.length = m * size) (hnews : ∀ j u, news[j]? = some u → w.cell? (a.add j) = some u) (h1 : ∀ u ∈ news, u.oneCell' = true)
    (h63 : n + m ≤ maxLen) (hbytes : (n + m) * bytes ≤ 140737488355328) (hbase : base ≤ w.heap.size) :
    ∃ v' w', (Builtin.append_ #[t, t] ty #[v, .slice (some a) m c]).run P w = .ok v' w' ∧ ownsAt w' base e size v' (n + m) (xs ++ news) ∧ w.grownBy w' v.ownBlock ∧
      (∀ k, v'.ownBlock = some k → v.ownBlock = some k ∨ w.heap.size ≤ k) := by
  have hlen : (xs ++ news).length = (n + m) * size := by rw [List.length_append, hown.1, hl, Nat.add_mul]
  rcases hown.2 with ⟨rfl, rfl⟩ | ⟨g, off, cap, cur, rfl, hb, hg, hn, hm, hs, htk⟩
  · have hx : xs = [] := List.eq_nil_of_length_eq_zero (by simpa using hown.1)
    subst hx
    obtain ⟨v', w', hr, h2, h3, _, h5⟩ := run_append_own_at (P := P) w base t ty e i z size bytes ht hi hz hsize hby hzs hsz (.slice none 0 0) 0 [] (World.ownsRow_nil w base e size) a m c news hl hnews h1 h63 hbytes hbase
    refine ⟨v', w', hr, .of_row h2, h3, fun k hk => ?_⟩
    rcases h5 with h5 | h5
    · left; rw [← h5]; exact hk
    · right; rw [h5] at hk; simp at hk; omega
  · by_cases hroom : n + m ≤ cap
    · subst hsize
      have hmul : n * i.size + news.length ≤ cap * i.size := by rw [hl, ← Nat.add_mul]; exact Nat.mul_le_mul_right _ hroom
      have hr := run_append_room_off (P := P) w t ty e i ht hi g off n cap cur hg a m c news hl hnews h1 hroom (by omega)
      refine ⟨_, _, hr, ⟨hlen, .inr ⟨g, off, cap, _, rfl, hb, setRow_heap w g cur _ e _ hg, hroom, hm, ?_, ?_⟩⟩, ⟨rfl, rfl, rfl, by simp, fun k _ hk => setRow_other w g k _ (fun e => hk (by simp [Value.ownBlock, e]))⟩, fun k hk => .inl hk⟩
      · simp only [List.size_toArray, List.length_append, List.length_take, List.length_drop, Array.length_toList]
        omega
      · have hcl : cur.toList.length = cur.size := Array.length_toList
        have h0 : (cur.toList.take (off + n * i.size)).drop off = xs := by rw [List.drop_take, show off + n * i.size - off = n * i.size from by omega]; exact htk
        rw [List.append_assoc, List.drop_append_of_le_length (by rw [List.length_take]; omega), h0, ← List.append_assoc, ← hlen]
        exact List.take_left
    · have holds : ∀ j u, xs[j]? = some u → w.cell? ((⟨g, off, none⟩ : Addr).add j) = some u := by
        intro j u hu
        rw [Addr.add_lit, cell_of_row w g (off + j) cur e (0, 0) hg]
        rw [← htk, List.getElem?_take] at hu
        split at hu
        · rw [List.getElem?_drop] at hu
          simpa using hu
        · cases hu
      obtain ⟨v', w', hr, h2, h3⟩ := run_append_arg_grows (P := P) w t ty e i z size bytes ht hi hz hsize hby hzs hsz ⟨g, off, none⟩ n cap xs hown.1 holds a m c news hl hnews (by omega) h63 hbytes
      have hpos : 0 < n + m := by omega
      obtain ⟨g', cap', rfl, hb', _⟩ := h2.form hpos
      refine ⟨_, w', hr, ?_, ⟨h3.os, h3.tape, h3.output, h3.size, fun k hk _ => h3.block k hk (by simp)⟩, ?_⟩
      · have := ownsAt.of_row h2
        refine ⟨this.1, ?_⟩
        rcases this.2 with hx | ⟨g2, o2, c2, cur2, hv2, hb2, r⟩
        · exact .inl hx
        · exact .inr ⟨g2, o2, c2, cur2, hv2, by omega, r⟩
      · intro k hk
        simp [Value.ownBlock] at hk
        right; omega

/-- At a step of a region that draws its order. -/
theorem step_append_at {ops : Array Oper} {o : Oper} {a : Act} {K : Act → World → Prop} {Q : Exit → Act → World → Prop} {E : Prop} (hgd : o.guard = none) (s x : Operand) (t : TypeId)
    (ho : o.op = .call { callee := .builtin .append, args := #[s, x], argTypes := #[t, t] })
    (base : Nat) (e : TypeId) (i : TypeInfo) (z : Value) (size bytes : Nat) (ht : P.underlying t = some (.slice e)) (hi : P.info? e = some i) (hz : i.zero = some z)
    (hsize : i.size = size) (hby : i.bytes = bytes) (hzs : z.cells.size = size) (hsz : 0 < size)
    (v : Value) (n : Nat) (xs : List Value) (hs : a.eval s = v) (hown : ownsAt w base e size v n xs)
    (ad : Addr) (m c : Nat) (news : List Value) (hx : a.eval x = .slice (some ad) m c) (hl : news.length = m * size) (hnews : ∀ j u, news[j]? = some u → w.cell? (ad.add j) = some u) (h1 : ∀ u ∈ news, u.oneCell' = true)
    (h63 : n + m ≤ maxLen) (hbytes : (n + m) * bytes ≤ 140737488355328) (hbase : base ≤ w.heap.size)
    (h : ∀ v' w', ownsAt w' base e size v' (n + m) (xs ++ news) → w.grownBy w' v.ownBlock → (∀ k, v'.ownBlock = some k → v.ownBlock = some k ∨ w.heap.size ≤ k) → K (a.put o.dst v') w') :
    if Region.wanted o (yielded ops a.tmps) = true then Oper.wp P o a w K Q else E := by
  have hw : Region.wanted o (yielded ops a.tmps) = true := by simp [Region.wanted, hgd]
  rw [if_pos hw]
  obtain ⟨v', w', hr, h2, h3, h4⟩ := run_append_at (P := P) w base t o.type e i z size bytes ht hi hz hsize hby hzs hsz v n xs hown ad m c news hl hnews h1 h63 hbytes hbase
  unfold Oper.wp execOp
  simp only [ho, resolve, invoke, builtin, Sem.run_bind, Sem.run_pure, Result.andThen_ok, List.map_toArray, List.map_cons, List.map_nil, hs, hx, hr]
  exact h v' w' h2 h3 h4

/-- 'append(nil, x...)' for a slice x of which the cells are known: a copy in new memory, or nil. -/
theorem run_append_copy (t ty e : TypeId) (i : TypeInfo) (z : Value) (size bytes : Nat) (ht : P.underlying t = some (.slice e)) (hi : P.info? e = some i) (hz : i.zero = some z)
    (hsize : i.size = size) (hby : i.bytes = bytes) (hzs : z.cells.size = size) (hsz : 0 < size) (base : Nat)
    (v : Value) (n : Nat) (xs : List Value) (hown : w.ownsRow base e size v n xs) (h1 : ∀ u ∈ xs, u.oneCell' = true)
    (h63 : n ≤ maxLen) (hbytes : n * bytes ≤ 140737488355328) :
    ∃ v' w', (Builtin.append_ #[t, t] ty #[.slice none 0 0, v]).run P w = .ok v' w' ∧ w'.ownsRow w.heap.size e size v' n xs ∧ w.grownBy w' none := by
  rcases hown.2 with ⟨rfl, rfl⟩ | ⟨g, cap, cur, rfl, hb, hg, hn, hm, hs, htk⟩
  · have hx : xs = [] := List.eq_nil_of_length_eq_zero (by simpa using hown.1)
    subst hx
    refine ⟨.slice none 0 0, w, ?_, World.ownsRow_nil w _ e size, ⟨rfl, rfl, rfl, Nat.le_refl _, fun _ _ _ => rfl⟩⟩
    simp [Builtin.append_, run_underlying ht, sizeOf, typeInfo, hi, Builtin.lenOf, Builtin.firstCells]
  · obtain ⟨v', w', hr, h2, h3, _⟩ := run_append_own (P := P) w w.heap.size t ty e i z size bytes ht hi hz hsize hby hzs hsz (.slice none 0 0) 0 [] (World.ownsRow_nil w _ e size) ⟨g, 0, none⟩ n cap xs hown.1 (hown.cells (g := g) rfl) h1 (by simpa using h63) (by simpa using hbytes) (Nat.le_refl _)
    exact ⟨v', w', hr, by simpa using h2, h3⟩

theorem step_append_copy {ops : Array Oper} {o : Oper} {a : Act} {K : Act → World → Prop} {Q : Exit → Act → World → Prop} {E : Prop} (hgd : o.guard = none) (s x : Operand) (t : TypeId)
    (ho : o.op = .call { callee := .builtin .append, args := #[s, x], argTypes := #[t, t] })
    (e : TypeId) (i : TypeInfo) (z : Value) (size bytes : Nat) (ht : P.underlying t = some (.slice e)) (hi : P.info? e = some i) (hz : i.zero = some z)
    (hsize : i.size = size) (hby : i.bytes = bytes) (hzs : z.cells.size = size) (hsz : 0 < size) (base : Nat)
    (v : Value) (n : Nat) (xs : List Value) (hs : a.eval s = .slice none 0 0) (hx : a.eval x = v) (hown : w.ownsRow base e size v n xs) (h1 : ∀ u ∈ xs, u.oneCell' = true)
    (h63 : n ≤ maxLen) (hbytes : n * bytes ≤ 140737488355328)
    (h : ∀ v' w', w'.ownsRow w.heap.size e size v' n xs → w.grownBy w' none → K (a.put o.dst v') w') :
    if Region.wanted o (yielded ops a.tmps) = true then Oper.wp P o a w K Q else E := by
  have hw : Region.wanted o (yielded ops a.tmps) = true := by simp [Region.wanted, hgd]
  rw [if_pos hw]
  obtain ⟨v', w', hr, h2, h3⟩ := run_append_copy (P := P) w t o.type e i z size bytes ht hi hz hsize hby hzs hsz base v n xs hown h1 h63 hbytes
  unfold Oper.wp execOp
  simp only [ho, resolve, invoke, builtin, Sem.run_bind, Sem.run_pure, Result.andThen_ok, List.map_toArray, List.map_cons, List.map_nil, hs, hx, hr]
  exact h v' w' h2 h3
end

theorem own_mono {w : World} {b b' : Nat} {e : TypeId} {size n : Nat} {v : Value} {xs : List Value} (h : w.ownsRow b' e size v n xs) (hb : b ≤ b') : w.ownsRow b e size v n xs := by
  refine ⟨h.1, ?_⟩
  rcases h.2 with h2 | ⟨g, cap, cur, hv, hb2, r⟩
  · exact .inl h2
  · exact .inr ⟨g, cap, cur, hv, Nat.le_trans hb hb2, r⟩
theorem at_mono {w : World} {b b' : Nat} {e : TypeId} {size n : Nat} {v : Value} {xs : List Value} (h : ownsAt w b' e size v n xs) (hb : b ≤ b') : ownsAt w b e size v n xs := by
  refine ⟨h.1, ?_⟩
  rcases h.2 with h2 | ⟨g, off, cap, cur, hv, hb2, r⟩
  · exact .inl h2
  · exact .inr ⟨g, off, cap, cur, hv, Nat.le_trans hb hb2, r⟩
/-- From within a block to its head, where it begins there: what append leaves of a slice that began at a head. -/
theorem step_append_own {P : Program} (w : World) {ops : Array Oper} {o : Oper} {a : Act} {K : Act → World → Prop} {Q : Exit → Act → World → Prop} {E : Prop} (hgd : o.guard = none) (s x : Operand) (t : TypeId)
    (ho : o.op = .call { callee := .builtin .append, args := #[s, x], argTypes := #[t, t] })
    (base : Nat) (e : TypeId) (i : TypeInfo) (z : Value) (size bytes : Nat) (ht : P.underlying t = some (.slice e)) (hi : P.info? e = some i) (hz : i.zero = some z)
    (hsize : i.size = size) (hby : i.bytes = bytes) (hzs : z.cells.size = size) (hsz : 0 < size)
    (v : Value) (n : Nat) (xs : List Value) (hs : a.eval s = v) (hown : w.ownsRow base e size v n xs)
    (ad : Addr) (m c : Nat) (news : List Value) (hx : a.eval x = .slice (some ad) m c) (hl : news.length = m * size) (hnews : ∀ j u, news[j]? = some u → w.cell? (ad.add j) = some u) (h1 : ∀ u ∈ news, u.oneCell' = true)
    (h63 : n + m ≤ maxLen) (hbytes : (n + m) * bytes ≤ 140737488355328) (hbase : base ≤ w.heap.size)
    (h : ∀ v' w', w'.ownsRow base e size v' (n + m) (xs ++ news) → w.grownBy w' v.ownBlock → K (a.put o.dst v') w') :
    if Region.wanted o (yielded ops a.tmps) = true then Oper.wp P o a w K Q else E := by
  have hw : Region.wanted o (yielded ops a.tmps) = true := by simp [Region.wanted, hgd]
  rw [if_pos hw]
  exact wp_append_own w s x t ho base e i z size bytes ht hi hz hsize hby hzs hsz v n xs hs hown ad m c news hx hl hnews h1 h63 hbytes hbase fun v' w' h2 h3 _ => h v' w' h2 h3

/-- What is owned lies elsewhere than a block of another kind. -/
theorem own_ne {w : World} {base : Nat} {e : TypeId} {size n g : Nat} {v : Value} {xs : List Value} {o : Obj} (h : w.ownsRow base e size v n xs) (hb : w.heap[g]? = some o) (ho : ∀ cur, o ≠ .cells cur e (0, 0)) : v.ownBlock = none ∨ v.ownBlock ≠ some g := by
  rcases h.2 with ⟨rfl, _⟩ | ⟨g', cap, cur, rfl, _, hg, _⟩
  · exact .inl rfl
  · right
    intro e2
    simp [Value.ownBlock] at e2
    subst e2
    rw [hg] at hb
    exact ho cur (Option.some.inj hb).symm
theorem at_ne {w : World} {base : Nat} {e : TypeId} {size n g : Nat} {v : Value} {xs : List Value} {o : Obj} (h : ownsAt w base e size v n xs) (hb : w.heap[g]? = some o) (ho : ∀ cur, o ≠ .cells cur e (0, 0)) : v.ownBlock = none ∨ v.ownBlock ≠ some g := by
  rcases h.2 with ⟨rfl, _⟩ | ⟨g', off, cap, cur, rfl, _, hg, _⟩
  · exact .inl rfl
  · right
    intro e2
    simp [Value.ownBlock] at e2
    subst e2
    rw [hg] at hb
    exact ho cur (Option.some.inj hb).symm
theorem own_at_ne {w : World} {b1 b2 : Nat} {e1 e2 : TypeId} {s1 s2 n1 n2 : Nat} {v1 v2 : Value} {x1 x2 : List Value} (h1 : w.ownsRow b1 e1 s1 v1 n1 x1) (h2 : ownsAt w b2 e2 s2 v2 n2 x2) (hne : e1 ≠ e2) : v1.ownBlock = none ∨ v1.ownBlock ≠ v2.ownBlock := by
  rcases h2.2 with ⟨rfl, _⟩ | ⟨g, off, cap, cur, rfl, _, hg, _⟩
  · cases hv : v1.ownBlock
    · exact .inl rfl
    · right; simp [Value.ownBlock]
  · exact own_ne h1 hg (fun cur' e => hne (by simp at e; exact e.2.symm))
end Go.Proofs.Ytaekpejpcafnkaa.ba

namespace Go.Proofs.Ytaekpejpcafnkaa.ba
open Go.RowKit
set_option maxRecDepth 8000
set_option linter.unusedVariables false

theorem Ints.shorter {k : IntKind} {w : World} {a : Option Addr} {n len : Nat} {Z : Nat → Int} (h : Ints k w a len Z) (hn : n ≤ len) : Ints k w a n Z := by
  rcases h with h | ⟨b, off, rfl, h⟩
  · exact .inl (by omega)
  · exact .inr ⟨b, off, rfl, fun i hi => h i (by omega)⟩

/-- The first m numbers, as a list. -/
def listOf (Z : Nat → Int) (m : Nat) : List Int := (List.range m).map Z
theorem listOf_length (Z : Nat → Int) (m : Nat) : (listOf Z m).length = m := by simp [listOf]
theorem listOf_getD (Z : Nat → Int) (m i : Nat) (h : i < m) : (listOf Z m).getD i 0 = Z i := by simp [listOf, List.getD, h]

theorem run_append_ints {P : Program} (w : World) (base : Nat) (t ty e : TypeId) (k : IntKind) (i : TypeInfo) (z : Value) (bytes : Nat) (ht : P.underlying t = some (.slice e)) (hi : P.info? e = some i) (hz : i.zero = some z)
    (hsize : i.size = 1) (hby : i.bytes = bytes) (hzs : z.cells.size = 1) (v : Value) (n : Nat) (l : List Int) (hown : w.ownsRow base e 1 v n (l.map (Value.int k)))
    (a : Option Addr) (m c : Nat) (Z : Nat → Int) (hI : Ints k w a m Z) (h63 : n + m ≤ 1073741824) (hbytes : bytes ≤ 1024) (hbase : base ≤ w.heap.size) :
    ∃ v' w', (Builtin.append_ #[t, t] ty #[v, .slice a m c]).run P w = .ok v' w' ∧ w'.ownsRow base e 1 v' (n + m) ((l ++ listOf Z m).map (Value.int k)) ∧ w.grownBy w' v.ownBlock := by
  have hb : (n + m) * bytes ≤ 140737488355328 := by
    have : (n + m) * bytes ≤ 1073741824 * 1024 := Nat.mul_le_mul h63 hbytes
    omega
  by_cases hm : m = 0
  · subst hm
    refine ⟨v, w, ?_, by simpa [listOf] using hown, ⟨rfl, rfl, rfl, Nat.le_refl _, fun _ _ _ => rfl⟩⟩
    have hl : ∀ a, (loadCells a 0).run P w = .ok #[] w := fun _ => rfl
    have hs : ∀ a, (storeCells a []).run P w = .ok () w := fun _ => rfl
    rcases hown.2 with ⟨rfl, rfl⟩ | ⟨g, cap, cur, rfl, _, hg, hn, _⟩
    · cases a <;> simp [Builtin.append_, run_underlying ht, sizeOf, typeInfo, hi, Builtin.lenOf, Builtin.firstCells, hl]
    · cases a <;> simp [Builtin.append_, run_underlying ht, sizeOf, typeInfo, hi, Builtin.lenOf, Builtin.firstCells, hn, hl, hs]
  · rcases hI with h0 | ⟨b, off, rfl, hc⟩
    · omega
    · obtain ⟨v', w', hr, h2, h3, _⟩ := run_append_own (P := P) w base t ty e i z 1 bytes ht hi hz hsize hby hzs (by decide) v n _ hown ⟨b, off, none⟩ m c ((listOf Z m).map (Value.int k)) (by simp [listOf]) (by
          intro j u hu
          rw [List.getElem?_map] at hu
          have hj : j < m := by
            rcases Nat.lt_or_ge j m with h | h
            · exact h
            · rw [List.getElem?_eq_none (by simp [listOf]; omega)] at hu; simp at hu
          simp [listOf, hj] at hu
          subst hu
          rw [Addr.add_lit]
          exact hc j hj) (by simp [Value.oneCell']) (by unfold maxLen; omega) hb hbase
      exact ⟨v', w', hr, by rw [List.map_append]; exact h2, h3⟩

theorem wpList_append_ints {P : Program} {w : World} {ops : Array Oper} {rest : List Oper} {o : Oper} {ac : Act} {Q : Exit → Act → World → Prop} (hgd : o.guard = none) (s x : Operand) (t : TypeId)
    (ho : o.op = .call { callee := .builtin .append, args := #[s, x], argTypes := #[t, t] })
    (base : Nat) (e : TypeId) (k : IntKind) (i : TypeInfo) (z : Value) (bytes : Nat) (ht : P.underlying t = some (.slice e)) (hi : P.info? e = some i) (hz : i.zero = some z)
    (hsize : i.size = 1) (hby : i.bytes = bytes) (hzs : z.cells.size = 1) (v : Value) (n : Nat) (l : List Int) (hs : ac.eval s = v) (hown : w.ownsRow base e 1 v n (l.map (Value.int k)))
    (a : Option Addr) (m c : Nat) (Z : Nat → Int) (hx : ac.eval x = .slice a m c) (hI : Ints k w a m Z) (h63 : n + m ≤ 1073741824) (hbytes : bytes ≤ 1024) (hbase : base ≤ w.heap.size)
    (h : ∀ v' w', w'.ownsRow base e 1 v' (n + m) ((l ++ listOf Z m).map (Value.int k)) → w.grownBy w' v.ownBlock → wpList P ops Q rest (ac.put o.dst v') w') :
    wpList P ops Q (o :: rest) ac w := by
  obtain ⟨v', w', hr, h2, h3⟩ := run_append_ints (P := P) w base t o.type e k i z bytes ht hi hz hsize hby hzs v n l hown a m c Z hI h63 hbytes hbase
  refine wpList_plain hgd fun K' hK' => ?_
  unfold Oper.wp execOp
  simp only [ho, resolve, invoke, builtin, Sem.run_bind, Sem.run_pure, Result.andThen_ok, List.map_toArray, List.map_cons, List.map_nil, hs, hx, hr]
  exact hK' _ _ (h v' w' h2 h3)
end Go.Proofs.Ytaekpejpcafnkaa.ba

namespace Go.Proofs.Ytaekpejpcafnkaa.ba
open Go.RowKit
set_option maxRecDepth 8000
set_option linter.unusedVariables false

/-- From the slice's address on the cells hold just these numbers. -/
def Lst (k : IntKind) (w : World) (a : Option Addr) (l : List Int) : Prop :=
  l = [] ∨ ∃ b off, a = some ⟨b, off, none⟩ ∧ ∀ i v, l[i]? = some v → w.cell? ⟨b, off + i, none⟩ = some (.int k v)

section
variable {k : IntKind} {w w' : World} {a : Option Addr} {l : List Int}

theorem Lst.nil (k : IntKind) (w : World) (a : Option Addr) : Lst k w a [] := .inl rfl
theorem Lst.below (h : Lst k w a l) (hb : Below w.heap.size w w') : Lst k w' a l := by
  rcases h with h | ⟨b, off, rfl, h⟩
  · exact .inl h
  · exact .inr ⟨b, off, rfl, fun i v hv => (hb.cell (p := ⟨b, off + i, none⟩) (World.block_lt_of_cell? w ⟨b, off + i, none⟩ (h i v hv))).trans (h i v hv)⟩
theorem Lst.ints (h : Lst k w a l) : Ints k w a l.length (fun i => l.getD i 0) := by
  rcases h with rfl | ⟨b, off, rfl, h⟩
  · exact .inl rfl
  · exact .inr ⟨b, off, rfl, fun i hi => by rw [h i _ (List.getElem?_eq_getElem hi)]; simp [List.getD, hi]⟩
theorem Lst.of_ints {n : Nat} {Z : Nat → Int} (h : Ints k w a n Z) : Lst k w a (listOf Z n) := by
  rcases h with rfl | ⟨b, off, rfl, h⟩
  · exact .inl rfl
  · refine .inr ⟨b, off, rfl, fun i v hv => ?_⟩
    have hi : i < n := by
      rcases Nat.lt_or_ge i n with h1 | h1
      · exact h1
      · rw [List.getElem?_eq_none (by rw [listOf_length]; exact h1)] at hv; cases hv
    simp [listOf, hi] at hv
    rw [← hv]
    exact h i hi
theorem Lst.own {base : Nat} {e : TypeId} {n cap : Nat} (h : w.ownsRow base e 1 (.slice a n cap) n (l.map (Value.int k))) : Lst k w a l := by
  rcases h.2 with ⟨hv, rfl⟩ | ⟨g, cap', cur, hv, _⟩
  · have := h.1
    simp at this
    exact .inl this
  · cases hv
    refine .inr ⟨g, 0, rfl, fun i v hv => ?_⟩
    have := h.cells rfl i (.int k v) (by rw [List.getElem?_map, hv]; rfl)
    rwa [Addr.add_lit] at this
theorem Lst.take (h : Lst k w a l) (n : Nat) : Lst k w a (l.take n) := by
  rcases h with rfl | ⟨b, off, rfl, h⟩
  · exact .inl (by simp)
  · refine .inr ⟨b, off, rfl, fun i v hv => h i v ?_⟩
    rw [List.getElem?_take] at hv
    split at hv
    · exact hv
    · cases hv
/-- The cell at a place. -/
theorem Lst.at (h : Lst k w a l) {i : Nat} {v : Int} (hv : l[i]? = some v) : ∃ b off, a = some ⟨b, off, none⟩ ∧ w.cell? ⟨b, off + i, none⟩ = some (.int k v) := by
  rcases h with rfl | ⟨b, off, rfl, h⟩
  · simp at hv
  · exact ⟨b, off, rfl, h i v hv⟩
end
theorem drop_at {α : Type} {l : List α} {i : Nat} {v : α} (h : l[i]? = some v) : l.drop i = v :: l.drop (i + 1) := by
  obtain ⟨hi, rfl⟩ := List.getElem?_eq_some_iff.1 h
  exact List.drop_eq_getElem_cons hi
theorem some_at {α : Type} (l : List α) {i : Nat} (h : i < l.length) : ∃ v, l[i]? = some v := ⟨_, List.getElem?_eq_getElem h⟩
/-- Bytes. -/
def Bytes (l : List Int) : Prop := ∀ v ∈ l, 0 ≤ v ∧ v ≤ 255
theorem Bytes.at {l : List Int} (h : Bytes l) {i : Nat} {v : Int} (hv : l[i]? = some v) : 0 ≤ v ∧ v ≤ 255 := h v (List.mem_of_getElem? hv)
end Go.Proofs.Ytaekpejpcafnkaa.ba

namespace Go.Proofs.Ytaekpejpcafnkaa.ba
open Go.RowKit
set_option maxRecDepth 8000
set_option linter.unusedVariables false

theorem listOf_list (x : List Int) : listOf (fun i => x.getD i 0) x.length = x := by
  apply List.ext_getElem
  · simp [listOf]
  · intro i h1 h2
    simp [listOf, h2]

theorem wpList_append_lst {P : Program} {w : World} {ops : Array Oper} {rest : List Oper} {o : Oper} {ac : Act} {Q : Exit → Act → World → Prop} (hgd : o.guard = none) (s x : Operand) (t : TypeId)
    (ho : o.op = .call { callee := .builtin .append, args := #[s, x], argTypes := #[t, t] })
    (base : Nat) (e : TypeId) (k : IntKind) (i : TypeInfo) (z : Value) (bytes : Nat) (ht : P.underlying t = some (.slice e)) (hi : P.info? e = some i) (hz : i.zero = some z)
    (hsize : i.size = 1) (hby : i.bytes = bytes) (hzs : z.cells.size = 1) (v : Value) (n : Nat) (l : List Int) (hs : ac.eval s = v) (hown : w.ownsRow base e 1 v n (l.map (Value.int k)))
    (a : Option Addr) (m c : Nat) (y : List Int) (hx : ac.eval x = .slice a m c) (hm : y.length = m) (hL : Lst k w a y) (h63 : n + m ≤ 1073741824) (hbytes : bytes ≤ 1024) (hbase : base ≤ w.heap.size)
    (h : ∀ v' w', w'.ownsRow base e 1 v' (n + m) ((l ++ y).map (Value.int k)) → w.grownBy w' v.ownBlock → wpList P ops Q rest (ac.put o.dst v') w') :
    wpList P ops Q (o :: rest) ac w := by
  subst hm
  refine wpList_append_ints hgd s x t ho base e k i z bytes ht hi hz hsize hby hzs v n l hs hown a y.length c _ hx hL.ints h63 hbytes hbase fun v' w' h1 h2 => ?_
  rw [listOf_list] at h1
  exact h v' w' h1 h2

/-- A literal of numbers in new memory. -/
theorem own_new (w : World) (base : Nat) (e : TypeId) (l : List Value) (n : Nat) (hn : l.length = n) (hb : base ≤ w.heap.size) (hm : n ≤ maxLen) : (w.alloc (.cells l.toArray e)).ownsRow base e 1 (.slice (some ⟨w.heap.size, 0, none⟩) n n) n l :=
  ⟨by omega, .inr ⟨w.heap.size, n, l.toArray, rfl, hb, heap_alloc_new w _, Nat.le_refl _, hm, by simp [hn], by subst hn; simp⟩⟩
end Go.Proofs.Ytaekpejpcafnkaa.ba

namespace Go.Proofs.Ytaekpejpcafnkaa.ba
open Go.RowKit
set_option maxRecDepth 8000
set_option linter.unusedVariables false

theorem run_cut_from {P : Program} (t e : TypeId) (ht : P.underlying t = some (.slice e)) (i : TypeInfo) (hi : P.info? e = some i) (hs : i.size = 1) (a : Option Addr) (n cap k : Nat) (hk : k ≤ n) (hn : n ≤ cap) :
    ∃ (a' : Option Addr) (n' c' : Nat), (∀ w, (Instr.slice t (.slice a n cap) (some (.int .i64 (k : Int))) none none).run P w = .ok (.slice a' n' c') w) ∧ n' = n - k ∧ n' ≤ c' ∧ c' ≤ cap ∧
      (∀ (kd : IntKind) (w : World) (l : List Int), l.length = n → Lst kd w a l → Lst kd w a' (l.drop k)) ∧ (∀ x, a' = some x → ∃ y, a = some y ∧ x.block = y.block) := by
  have hel : P.elem t = e := by simp [Program.elem, ht]
  refine ⟨if cap = k then a else a.map (·.add (k * 1)), n - k, cap - k, fun w => ?_, rfl, by omega, by omega, fun kd w l hl hL => ?_, fun x hx => ?_⟩
  · rw [run_slice_l w t a n cap (by rw [hel]; exact ht) .i64 (k : Int) (by omega) (by omega), hel]
    simp [sizeOf, typeInfo, hi, hs, sliced]
  · by_cases hc : cap = k
    · rw [if_pos hc, List.drop_eq_nil_of_le (by omega)]
      exact Lst.nil _ _ _
    · rw [if_neg hc]
      rcases hL with rfl | ⟨b, off, rfl, h⟩
      · exact .inl (by simp)
      · refine .inr ⟨b, off + k, by simp [Addr.add_lit], fun i v hv => ?_⟩
        rw [List.getElem?_drop] at hv
        have := h (k + i) v hv
        rwa [← Nat.add_assoc] at this
  · split at hx
    · exact ⟨x, hx, rfl⟩
    · cases a with
      | none => simp at hx
      | some y =>
        simp at hx
        refine ⟨y, rfl, ?_⟩
        rw [← hx]
        unfold Addr.add
        split <;> rfl
end Go.Proofs.Ytaekpejpcafnkaa.ba

namespace Go.Proofs.Ytaekpejpcafnkaa.fl
open Go.ChangeShapes Go.WideShapes Go.Deep
set_option linter.unusedVariables false

/-- The leaves of a type, with their offsets: what is no struct. -/
def leaves (P : Program) : Nat → TypeId → List (Nat × TypeId)
  | 0, _ => []
  | n + 1, t => match P.underlying t with
    | some (.struct fs) => fs.toList.flatMap fun f => (leaves P n f.type).map fun x => (f.offset + x.1, x.2)
    | some .bool => [(0, t)]
    | some (.int _) => [(0, t)]
    | some .string => [(0, t)]
    | some (.slice _) => [(0, t)]
    | _ => []

section
variable {H : Type} {enc : TypeId × Value → H} {P : Program} {w : World} {base : Nat} {spare : Nat → Bool} {held : Bool}

theorem one_cell {t : TypeId} {fuel : Nat} {cs : List Value} {x : DataW H × List MemPlace} (d : TypeDesc) (ht : P.underlying t = some d)
    (hd : d = .bool ∨ (∃ k, d = .int k) ∨ d = .string ∨ ∃ e, d = .slice e) (h : DataW.trod enc P w base spare held fuel t cs = some x) : ∃ v, cs = [v] := by
  rcases hd with rfl | ⟨k, rfl⟩ | rfl | ⟨e, rfl⟩
  · obtain ⟨b, rfl, _⟩ := DataW.trod_bool ht h; exact ⟨_, rfl⟩
  · obtain ⟨b, rfl, _⟩ := DataW.trod_int ht h; exact ⟨_, rfl⟩
  · obtain ⟨b, rfl, _⟩ := DataW.trod_string ht h; exact ⟨_, rfl⟩
  · rcases DataW.trod_slice ht h with ⟨rfl, _⟩ | ⟨a, len, cap, _, _, _, _, rfl, _⟩
    · exact ⟨_, rfl⟩
    · exact ⟨_, rfl⟩

theorem at_zero {α : Type} {v : α} {l cs : List α} {o n : Nat} (h : (cs.drop o).take n = l) (i : Nat) (hi : l[i]? = some v) : cs[o + i]? = some v := by
  subst h
  rw [List.getElem?_take] at hi
  split at hi
  · rwa [List.getElem?_drop] at hi
  · cases hi

theorem trod_leaf (n : Nat) : ∀ (t : TypeId) (fuel : Nat) (cs : List Value) (x : DataW H × List MemPlace) (o : Nat) (u : TypeId), (o, u) ∈ leaves P n t →
    DataW.trod enc P w base spare held fuel t cs = some x → ∃ (v : Value) (y : DataW H × List MemPlace) (m : Nat), cs[o]? = some v ∧ DataW.trod enc P w base spare held m u [v] = some y := by
  induction n with
  | zero => intro t fuel cs x o u hm; simp [leaves] at hm
  | succ n ih =>
    intro t fuel cs x o u hm h
    unfold leaves at hm
    have leaf : ∀ (d : TypeDesc), P.underlying t = some d → (d = .bool ∨ (∃ k, d = .int k) ∨ d = .string ∨ ∃ e, d = .slice e) → (o, u) ∈ [(0, t)] →
        ∃ (v : Value) (y : DataW H × List MemPlace) (m : Nat), cs[o]? = some v ∧ DataW.trod enc P w base spare held m u [v] = some y := by
      intro d ht hd hou
      simp only [List.mem_singleton, Prod.mk.injEq] at hou
      obtain ⟨rfl, rfl⟩ := hou
      obtain ⟨v, rfl⟩ := one_cell d ht hd h
      exact ⟨v, x, fuel, rfl, h⟩
    split at hm
    · rename_i fs hs
      obtain ⟨xs, n', _, _, _, _, hf⟩ := DataW.trod_struct hs h
      obtain ⟨f, hfm, hx⟩ := List.mem_flatMap.1 hm
      obtain ⟨⟨o', u'⟩, hl, he⟩ := List.mem_map.1 hx
      simp only [Prod.mk.injEq] at he
      obtain ⟨rfl, rfl⟩ := he
      obtain ⟨i, hi, hfi⟩ := List.mem_iff_getElem.1 hfm
      have h1 := hf i f (by rw [← hfi]; simp at hi ⊢)
      have hlen : i < xs.length := by
        by_cases hlt : i < xs.length
        · exact hlt
        · exfalso
          obtain ⟨xs', n'', _, _, _, hl', _⟩ := DataW.trod_struct hs h
          simp at hi
          omega
      rw [List.getElem?_eq_getElem hlen] at h1
      obtain ⟨v, y, m, hv, hy⟩ := ih f.type n' _ _ o' u' hl h1
      exact ⟨v, y, m, at_zero rfl o' hv, hy⟩
    · rename_i hs; exact leaf _ hs (.inl rfl) hm
    · rename_i k hs; exact leaf _ hs (.inr (.inl ⟨_, rfl⟩)) hm
    · rename_i hs; exact leaf _ hs (.inr (.inr (.inl rfl))) hm
    · rename_i e hs; exact leaf _ hs (.inr (.inr (.inr ⟨_, rfl⟩))) hm
    · simp at hm

/-- A slice that came in: nil, or a row; each leaf of each element that counts. -/
theorem slice_leaves {t e : TypeId} {fuel n : Nat} {cs : List Value} {x : DataW H × List MemPlace} (ht : P.underlying t = some (.slice e)) (h : DataW.trod enc P w base spare held fuel t cs = some x) :
    cs = [.slice none 0 0] ∨ ∃ (a : Addr) (len cap : Nat), cs = [.slice (some a) len cap] ∧ len ≤ cap ∧ cap ≤ maxLen ∧
      ∀ i, i < len → ∀ o u, (o, u) ∈ leaves P n e → o < P.cellsOf e → ∃ (v : Value) (y : DataW H × List MemPlace) (m : Nat), w.cell? (a.add (i * P.cellsOf e + o)) = some v ∧ DataW.trod enc P w base spare held m u [v] = some y := by
  rcases open_slice ht h with ⟨h0, _⟩ | ⟨a, len, cap, m, n', D, Pl, rfl, _, hl, hm, hmm, _, hi⟩
  · exact .inl h0
  · refine .inr ⟨a, len, cap, rfl, hl, hm, fun i hlt o u hou ho => ?_⟩
    obtain ⟨cs', hc, ht'⟩ := hi i (by split at hmm <;> omega)
    obtain ⟨v, y, k, hv, hy⟩ := trod_leaf n e n' cs' _ o u hou ht'
    obtain ⟨_, _, hat⟩ := World.cells?_some hc
    refine ⟨v, y, k, ?_, hy⟩
    rw [← add_add, hat o ho, hv]

/-- An address that is read, written out. -/
theorem add_out {a : Addr} {j : Nat} {v : Value} (h : w.cell? (a.add j) = some v) : a.add j = ⟨a.block, a.off + j, none⟩ := by
  have hs := World.cell?_spot h
  unfold Addr.add at hs ⊢
  split
  · rename_i h0
    subst h0
    simp at hs
    cases a
    simp_all
  · rfl

theorem cell_out {a : Addr} {j : Nat} {v : Value} (h : w.cell? (a.add j) = some v) : w.cell? ⟨a.block, a.off + j, none⟩ = some v := by
  rw [add_out h] at h; exact h

theorem spot_out {a : Addr} {v : Value} (h : w.cell? (a.add 0) = some v) : a = ⟨a.block, a.off, none⟩ := by
  have := add_out h
  simpa [Addr.add] using this
end
end Go.Proofs.Ytaekpejpcafnkaa.fl

namespace Go.Proofs.Ytaekpejpcafnkaa.dw
open Go.RowKit Go.Proofs.Ytaekpejpcafnkaa.fl Go.Proofs.Ytaekpejpcafnkaa.ba Go.Deep
set_option maxRecDepth 8000

theorem leaves_byte : leaves Try.prog 2 5 = [(0, 5)] := by kernel_rfl
theorem cells_byte : Try.prog.cellsOf 5 = 1 := by kernel_rfl

theorem open_bytes {H : Type} {enc : TypeId × Value → H} {W : World} {base : Nat} {spare : Nat → Bool} {held : Bool} {a : Option Addr} {len cap : Nat} {d : DataW H} {p : List MemPlace}
    (h : DataW.Trod enc Try.prog W base spare held 22 (.slice a len cap) d p) : len ≤ cap ∧ cap ≤ maxLen ∧ ∃ Z, Ints .u8 W a len Z ∧ ∀ i, i < len → 0 ≤ Z i ∧ Z i ≤ 255 := by
  obtain ⟨fuel, hf⟩ := h
  rcases slice_leaves (n := 2) Try.underlying22 hf with h0 | ⟨x, len', cap', hcs, hl, hm, hi⟩
  · simp [Value.cells] at h0
    obtain ⟨rfl, rfl, rfl⟩ := h0
    exact ⟨Nat.le_refl _, Nat.zero_le _, fun _ => 0, .inl rfl, fun i hi => absurd hi (by omega)⟩
  · simp [Value.cells] at hcs
    obtain ⟨rfl, rfl, rfl⟩ := hcs
    refine ⟨hl, hm, ?_⟩
    rw [cells_byte, leaves_byte] at hi
    have each : ∀ i, ∃ f : Int, i < len → W.cell? ⟨x.block, x.off + i, none⟩ = some (.int .u8 f) ∧ 0 ≤ f ∧ f ≤ 255 := by
      intro i
      by_cases hlt : i < len
      · obtain ⟨v0, y0, m0, c0, t0⟩ := hi i hlt 0 5 (by simp) (by omega)
        obtain ⟨n0, e0, _, w0⟩ := DataW.trod_int Try.underlying5 t0
        simp at e0
        subst e0
        simp [Lit.wf, IntKind.min, IntKind.max, IntKind.bits, IntKind.signed] at w0
        exact ⟨n0, fun _ => ⟨by simpa using cell_out c0, by omega, by omega⟩⟩
      · exact ⟨0, fun h => absurd h hlt⟩
    obtain ⟨Z, hZ⟩ : ∃ Z : Nat → Int, ∀ i, i < len → W.cell? ⟨x.block, x.off + i, none⟩ = some (.int .u8 (Z i)) ∧ 0 ≤ Z i ∧ Z i ≤ 255 := ⟨fun i => Classical.choose (each i), fun i hi => Classical.choose_spec (each i) hi⟩
    by_cases h0 : len = 0
    · subst h0
      exact ⟨Z, .inl rfl, fun i hi => absurd hi (by omega)⟩
    · obtain ⟨v0, y0, m0, c0, t0⟩ := hi 0 (by omega) 0 5 (by simp) (by omega)
      exact ⟨Z, .inr ⟨x.block, x.off, by rw [← spot_out (by simpa using c0)], fun i hi => (hZ i hi).1⟩, fun i hi => (hZ i hi).2⟩
end Go.Proofs.Ytaekpejpcafnkaa.dw

namespace Go.Proofs.Ytaekpejpcafnkaa.ba
open Go.RowKit
set_option maxRecDepth 8000
set_option linter.unusedVariables false

/-- Block g is just these cells, none of them frozen. -/
def Blk (w : World) (g : Nat) (t : TypeId) (cs : Array Value) : Prop := w.heap[g]? = some (.cells cs t (0, 0))
/-- Nothing that was there has changed but the blocks in S. -/
structure Kept (S : Nat → Prop) (w w' : World) : Prop where
  os : w'.os = w.os
  tape : w'.tape = w.tape
  output : w'.output = w.output
  size : w.heap.size ≤ w'.heap.size
  block : ∀ k, k < w.heap.size → ¬ S k → w'.heap[k]? = w.heap[k]?

section
variable {w w' w2 : World} {g : Nat} {t : TypeId} {cs : Array Value} {S S' : Nat → Prop}
theorem Blk.lt (h : Blk w g t cs) : g < w.heap.size := (Array.getElem?_eq_some_iff.1 h).1
theorem Blk.cell (h : Blk w g t cs) (i : Nat) : w.cell? ⟨g, i, none⟩ = cs[i]? := cell_of_row w g i cs t (0, 0) h
theorem Blk.frozen (h : Blk w g t cs) (i : Nat) : w.frozen? ⟨g, i, none⟩ = false := by
  unfold Blk at h
  simp [World.frozen?, h]
theorem Blk.new (w : World) (t : TypeId) (cs : Array Value) : Blk (w.alloc (.cells cs t)) w.heap.size t cs := heap_alloc_new w _
theorem Blk.drewN (h : Blk w g t cs) (n : Nat) : Blk (w.drewN n) g t cs := h
theorem Blk.drew (h : Blk w g t cs) : Blk w.drew g t cs := h
theorem Blk.alloc (h : Blk w g t cs) (o : Obj) : Blk (w.alloc o) g t cs := (Below.heap_alloc w o g h.lt).trans h
theorem Blk.set_ (h : Blk w g t cs) (i : Nat) (u : Value) : Blk (w.setCell ⟨g, i, none⟩ u) g t (cs.setIfInBounds i u) := by
  unfold Blk at h ⊢
  simp [World.setCell, Array.getElem?_modify, h]
theorem Blk.far (h : Blk w g t cs) {p : Addr} (hp : g ≠ p.block) (u : Value) : Blk (w.setCell p u) g t cs := (Below.heap_setCell w p u g hp).trans h
theorem Blk.kept (h : Blk w g t cs) (hk : Kept S w w') (hg : ¬ S g) : Blk w' g t cs := (hk.block g h.lt hg).trans h
theorem Blk.below (h : Blk w g t cs) (hb : Below w.heap.size w w') : Blk w' g t cs := (hb.block g h.lt).trans h
theorem Blk.one (h : Blk w g t cs) {cs' : Array Value} {t' : TypeId} (h' : Blk w g t' cs') : cs = cs' ∧ t = t' := by
  unfold Blk at h h'
  rw [h] at h'
  simp at h'
  exact h'

theorem Kept.refl (S : Nat → Prop) (w : World) : Kept S w w := ⟨rfl, rfl, rfl, Nat.le_refl _, fun _ _ _ => rfl⟩
theorem Kept.trans (h : Kept S w w') (k : Kept S' w' w2) (hs : ∀ j, j < w.heap.size → S' j → S j) : Kept S w w2 :=
  ⟨k.os.trans h.os, k.tape.trans h.tape, k.output.trans h.output, Nat.le_trans h.size k.size, fun j hj hn => (k.block j (Nat.lt_of_lt_of_le hj h.size) (fun e => hn (hs j hj e))).trans (h.block j hj hn)⟩
theorem Kept.mono (h : Kept S w w') (hs : ∀ j, j < w.heap.size → S j → S' j) : Kept S' w w' :=
  ⟨h.os, h.tape, h.output, h.size, fun j hj hn => h.block j hj (fun e => hn (hs j hj e))⟩
theorem Kept.of_below (h : Below w.heap.size w w') : Kept S w w' := ⟨h.os, h.tape, h.output, h.size, fun j hj _ => h.block j hj⟩
theorem Kept.of_grown {row : Option Nat} (h : w.grownBy w' row) (hs : ∀ j, row = some j → S j) : Kept S w w' :=
  ⟨h.os, h.tape, h.output, h.size, fun j hj hn => h.block j hj (fun e => hn (hs j e.symm))⟩
theorem Kept.of_set {p : Addr} (u : Value) (hs : S p.block) : Kept S w (w.setCell p u) :=
  ⟨rfl, rfl, rfl, by simp [World.setCell], fun j hj hn => Below.heap_setCell w p u j (fun e => hn (by rw [e]; exact hs))⟩
theorem Kept.of_alloc (o : Obj) : Kept S w (w.alloc o) := Kept.of_below ((Below.refl _ w).alloc (Nat.le_refl _) o)
theorem Kept.of_drewN (n : Nat) : Kept S w (w.drewN n) := ⟨rfl, rfl, rfl, Nat.le_refl _, fun _ _ _ => rfl⟩
theorem Kept.of_drew : Kept S w w.drew := ⟨rfl, rfl, rfl, Nat.le_refl _, fun _ _ _ => rfl⟩
/-- On to a further world, by the same blocks. -/
theorem Kept.on (h : Kept S w w') (k : Kept S w' w2) : Kept S w w2 := h.trans k (fun _ _ e => e)
theorem Kept.below (h : Kept S w' w2) {w0 : World} (hb : Below w0.heap.size w0 w') (hs : ∀ j, S j → w0.heap.size ≤ j) : Below w0.heap.size w0 w2 :=
  ⟨h.os.trans hb.os, h.tape.trans hb.tape, h.output.trans hb.output, Nat.le_trans hb.size h.size, fun j hj => (h.block j (Nat.lt_of_lt_of_le hj hb.size) (fun e => by have := hs j e; omega)).trans (hb.block j hj)⟩
theorem Kept.cell (h : Kept S w w') {p : Addr} {v : Value} (hc : w.cell? p = some v) (hp : ¬ S p.block) : w'.cell? p = some v :=
  (World.cell?_of_block (w := w) (h.block p.block (World.block_lt_of_cell? w p hc) hp)).trans hc
theorem Kept.own {base : Nat} {e : TypeId} {size n : Nat} {v : Value} {xs : List Value} (h : Kept S w w') (ho : w.ownsRow base e size v n xs) (hs : ∀ j, v.ownBlock = some j → ¬ S j) : w'.ownsRow base e size v n xs := by
  refine ⟨ho.1, ?_⟩
  rcases ho.2 with h2 | ⟨q, cap, cur, hv, hb, hg, r⟩
  · exact .inl h2
  · refine .inr ⟨q, cap, cur, hv, hb, ?_, r⟩
    rw [h.block q (Array.getElem?_eq_some_iff.1 hg).1 (hs q (by rw [hv]; rfl))]
    exact hg
theorem Lst.kept {k : IntKind} {a : Option Addr} {l : List Int} (hL : Lst k w a l) (h : Kept S w w') (hs : ∀ p, a = some p → ¬ S p.block) : Lst k w' a l := by
  rcases hL with rfl | ⟨b, off, rfl, hc⟩
  · exact .inl rfl
  · exact .inr ⟨b, off, rfl, fun i v hv => h.cell (hc i v hv) (hs ⟨b, off, none⟩ rfl)⟩
theorem Blk.grown {row : Option Nat} (h : Blk w g t cs) (hg : w.grownBy w' row) (hne : row = none ∨ row ≠ some g) : Blk w' g t cs := by
  refine (hg.block g h.lt ?_).trans h
  rcases hne with rfl | hne
  · simp
  · exact fun e => hne e.symm
end

theorem run_append_lst_at {P : Program} (w : World) (base : Nat) (t ty e : TypeId) (k : IntKind) (i : TypeInfo) (z : Value) (bytes : Nat) (ht : P.underlying t = some (.slice e)) (hi : P.info? e = some i) (hz : i.zero = some z)
    (hsize : i.size = 1) (hby : i.bytes = bytes) (hzs : z.cells.size = 1) (v : Value) (n : Nat) (l : List Int) (hown : w.ownsRow base e 1 v n (l.map (Value.int k)))
    (a : Option Addr) (c : Nat) (y : List Int) (hL : Lst k w a y) (h63 : n + y.length ≤ 1073741824) (hbytes : bytes ≤ 1024) (hbase : base ≤ w.heap.size) :
    ∃ v' w', (Builtin.append_ #[t, t] ty #[v, .slice a y.length c]).run P w = .ok v' w' ∧ w'.ownsRow base e 1 v' (n + y.length) ((l ++ y).map (Value.int k)) ∧ w.grownBy w' v.ownBlock ∧ (v'.ownBlock = v.ownBlock ∨ v'.ownBlock = some w.heap.size) := by
  have hb : (n + y.length) * bytes ≤ 140737488355328 := by
    have : (n + y.length) * bytes ≤ 1073741824 * 1024 := Nat.mul_le_mul h63 hbytes
    omega
  rcases hL with rfl | ⟨b, off, rfl, hc⟩
  · refine ⟨v, w, ?_, by simpa using hown, ⟨rfl, rfl, rfl, Nat.le_refl _, fun _ _ _ => rfl⟩, .inl rfl⟩
    have hl : ∀ a, (loadCells a 0).run P w = .ok #[] w := fun _ => rfl
    have hs : ∀ a, (storeCells a []).run P w = .ok () w := fun _ => rfl
    rcases hown.2 with ⟨rfl, rfl⟩ | ⟨g, cap, cur, rfl, _, hg, hn, _⟩
    · cases a <;> simp [Builtin.append_, run_underlying ht, sizeOf, typeInfo, hi, Builtin.lenOf, Builtin.firstCells, hl]
    · cases a <;> simp [Builtin.append_, run_underlying ht, sizeOf, typeInfo, hi, Builtin.lenOf, Builtin.firstCells, hn, hl, hs]
  · obtain ⟨v', w', hr, h2, h3, _, h5⟩ := run_append_own_at (P := P) w base t ty e i z 1 bytes ht hi hz hsize hby hzs (by decide) v n _ hown ⟨b, off, none⟩ y.length c (y.map (Value.int k)) (by simp) (by
        intro j u hu
        rw [List.getElem?_map] at hu
        obtain ⟨u', hu', rfl⟩ : ∃ u', y[j]? = some u' ∧ u = .int k u' := by
          cases hy : y[j]? with
          | none => rw [hy] at hu; simp at hu
          | some x => rw [hy] at hu; simp at hu; exact ⟨x, rfl, hu.symm⟩
        rw [Addr.add_lit]
        exact hc j u' hu') (by simp [Value.oneCell']) (by unfold maxLen; omega) hb hbase
    exact ⟨v', w', hr, by rw [List.map_append]; exact h2, h3, h5⟩

theorem wpList_append_lst_at {P : Program} {w : World} {ops : Array Oper} {rest : List Oper} {o : Oper} {ac : Act} {Q : Exit → Act → World → Prop} (hgd : o.guard = none) (s x : Operand) (t : TypeId)
    (ho : o.op = .call { callee := .builtin .append, args := #[s, x], argTypes := #[t, t] })
    (base : Nat) (e : TypeId) (k : IntKind) (i : TypeInfo) (z : Value) (bytes : Nat) (ht : P.underlying t = some (.slice e)) (hi : P.info? e = some i) (hz : i.zero = some z)
    (hsize : i.size = 1) (hby : i.bytes = bytes) (hzs : z.cells.size = 1) (v : Value) (n : Nat) (l : List Int) (hs : ac.eval s = v) (hown : w.ownsRow base e 1 v n (l.map (Value.int k)))
    (a : Option Addr) (m c : Nat) (y : List Int) (hx : ac.eval x = .slice a m c) (hm : y.length = m) (hL : Lst k w a y) (h63 : n + m ≤ 1073741824) (hbytes : bytes ≤ 1024) (hbase : base ≤ w.heap.size)
    (h : ∀ v' w', w'.ownsRow base e 1 v' (n + m) ((l ++ y).map (Value.int k)) → w.grownBy w' v.ownBlock → (v'.ownBlock = v.ownBlock ∨ v'.ownBlock = some w.heap.size) → wpList P ops Q rest (ac.put o.dst v') w') :
    wpList P ops Q (o :: rest) ac w := by
  subst hm
  obtain ⟨v', w', hr, h2, h3, h4⟩ := run_append_lst_at (P := P) w base t o.type e k i z bytes ht hi hz hsize hby hzs v n l hown a c y hL h63 hbytes hbase
  refine wpList_plain hgd fun K' hK' => ?_
  unfold Oper.wp execOp
  simp only [ho, resolve, invoke, builtin, Sem.run_bind, Sem.run_pure, Result.andThen_ok, List.map_toArray, List.map_cons, List.map_nil, hs, hx, hr]
  exact hK' _ _ (h v' w' h2 h3 h4)
end Go.Proofs.Ytaekpejpcafnkaa.ba
