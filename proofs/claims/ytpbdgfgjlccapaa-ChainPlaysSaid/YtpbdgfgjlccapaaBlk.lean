/-
  A block that is known whole; what a call that writes only some blocks leaves. For whatever program.
-/
import Derived.Test.YtpbdgfgjlccapaaLst
import Derived.Laws.OwnMore
import Derived.Deep.Draws
import Derived.Laws.Rows
import Derived.Maps.AppendAt
import Derived.Test.YtpbdgfgjlccapaaRow
namespace Go.Proofs.Ytpbdgfgjlccapaa.ba
open Go.RowKit
set_option maxRecDepth 8000
set_option linter.unusedVariables false

/-- Block g is just these cells, none of them frozen. -/
def Blk (w : World) (g : Nat) (t : TypeId) (cs : Array Value) : Prop := w.heap[g]? = some (.cells cs t (0, 0))
/-- Nothing that was there has changed but the blocks in S. -/
structure Kept (S : Nat → Prop) (w w' : World) : Prop where
  os : w'.os = w.os
  tape : w'.tape = w.tape
  output : w'.output = w.output
  size : w.heap.size ≤ w'.heap.size
  block : ∀ k, k < w.heap.size → ¬ S k → w'.heap[k]? = w.heap[k]?

section
variable {w w' w2 : World} {g : Nat} {t : TypeId} {cs : Array Value} {S S' : Nat → Prop}
theorem Blk.lt (h : Blk w g t cs) : g < w.heap.size := (Array.getElem?_eq_some_iff.1 h).1
theorem Blk.cell (h : Blk w g t cs) (i : Nat) : w.cell? ⟨g, i, none⟩ = cs[i]? := cell_of_row w g i cs t (0, 0) h
theorem Blk.frozen (h : Blk w g t cs) (i : Nat) : w.frozen? ⟨g, i, none⟩ = false := by
  unfold Blk at h
  simp [World.frozen?, h]
theorem Blk.new (w : World) (t : TypeId) (cs : Array Value) : Blk (w.alloc (.cells cs t)) w.heap.size t cs := heap_alloc_new w _
theorem Blk.drewN (h : Blk w g t cs) (n : Nat) : Blk (w.drewN n) g t cs := h
theorem Blk.drew (h : Blk w g t cs) : Blk w.drew g t cs := h
theorem Blk.alloc (h : Blk w g t cs) (o : Obj) : Blk (w.alloc o) g t cs := (Below.heap_alloc w o g h.lt).trans h
theorem Blk.set_ (h : Blk w g t cs) (i : Nat) (u : Value) : Blk (w.setCell ⟨g, i, none⟩ u) g t (cs.setIfInBounds i u) := by
  unfold Blk at h ⊢
  simp [World.setCell, Array.getElem?_modify, h]
theorem Blk.far (h : Blk w g t cs) {p : Addr} (hp : g ≠ p.block) (u : Value) : Blk (w.setCell p u) g t cs := (Below.heap_setCell w p u g hp).trans h
theorem Blk.kept (h : Blk w g t cs) (hk : Kept S w w') (hg : ¬ S g) : Blk w' g t cs := (hk.block g h.lt hg).trans h
theorem Blk.below (h : Blk w g t cs) (hb : Below w.heap.size w w') : Blk w' g t cs := (hb.block g h.lt).trans h
theorem Blk.one (h : Blk w g t cs) {cs' : Array Value} {t' : TypeId} (h' : Blk w g t' cs') : cs = cs' ∧ t = t' := by
  unfold Blk at h h'
  rw [h] at h'
  simp at h'
  exact h'

theorem Kept.refl (S : Nat → Prop) (w : World) : Kept S w w := ⟨rfl, rfl, rfl, Nat.le_refl _, fun _ _ _ => rfl⟩
theorem Kept.trans (h : Kept S w w') (k : Kept S' w' w2) (hs : ∀ j, j < w.heap.size → S' j → S j) : Kept S w w2 :=
  ⟨k.os.trans h.os, k.tape.trans h.tape, k.output.trans h.output, Nat.le_trans h.size k.size, fun j hj hn => (k.block j (Nat.lt_of_lt_of_le hj h.size) (fun e => hn (hs j hj e))).trans (h.block j hj hn)⟩
theorem Kept.mono (h : Kept S w w') (hs : ∀ j, j < w.heap.size → S j → S' j) : Kept S' w w' :=
  ⟨h.os, h.tape, h.output, h.size, fun j hj hn => h.block j hj (fun e => hn (hs j hj e))⟩
theorem Kept.of_below (h : Below w.heap.size w w') : Kept S w w' := ⟨h.os, h.tape, h.output, h.size, fun j hj _ => h.block j hj⟩
theorem Kept.of_grown {row : Option Nat} (h : w.grownBy w' row) (hs : ∀ j, row = some j → S j) : Kept S w w' :=
  ⟨h.os, h.tape, h.output, h.size, fun j hj hn => h.block j hj (fun e => hn (hs j e.symm))⟩
theorem Kept.of_set {p : Addr} (u : Value) (hs : S p.block) : Kept S w (w.setCell p u) :=
  ⟨rfl, rfl, rfl, by simp [World.setCell], fun j hj hn => Below.heap_setCell w p u j (fun e => hn (by rw [e]; exact hs))⟩
theorem Kept.of_alloc (o : Obj) : Kept S w (w.alloc o) := Kept.of_below ((Below.refl _ w).alloc (Nat.le_refl _) o)
theorem Kept.of_drewN (n : Nat) : Kept S w (w.drewN n) := ⟨rfl, rfl, rfl, Nat.le_refl _, fun _ _ _ => rfl⟩
theorem Kept.of_drew : Kept S w w.drew := ⟨rfl, rfl, rfl, Nat.le_refl _, fun _ _ _ => rfl⟩
/-- On to a further world, by the same blocks. -/
theorem Kept.on (h : Kept S w w') (k : Kept S w' w2) : Kept S w w2 := h.trans k (fun _ _ e => e)
theorem Kept.below (h : Kept S w' w2) {w0 : World} (hb : Below w0.heap.size w0 w') (hs : ∀ j, S j → w0.heap.size ≤ j) : Below w0.heap.size w0 w2 :=
  ⟨h.os.trans hb.os, h.tape.trans hb.tape, h.output.trans hb.output, Nat.le_trans hb.size h.size, fun j hj => (h.block j (Nat.lt_of_lt_of_le hj hb.size) (fun e => by have := hs j e; omega)).trans (hb.block j hj)⟩
theorem Kept.cell (h : Kept S w w') {p : Addr} {v : Value} (hc : w.cell? p = some v) (hp : ¬ S p.block) : w'.cell? p = some v :=
  (World.cell?_of_block (w := w) (h.block p.block (World.block_lt_of_cell? w p hc) hp)).trans hc
theorem Kept.own {base : Nat} {e : TypeId} {size n : Nat} {v : Value} {xs : List Value} (h : Kept S w w') (ho : w.ownsRow base e size v n xs) (hs : ∀ j, v.ownBlock = some j → ¬ S j) : w'.ownsRow base e size v n xs := by
  refine ⟨ho.1, ?_⟩
  rcases ho.2 with h2 | ⟨q, cap, cur, hv, hb, hg, r⟩
  · exact .inl h2
  · refine .inr ⟨q, cap, cur, hv, hb, ?_, r⟩
    rw [h.block q (Array.getElem?_eq_some_iff.1 hg).1 (hs q (by rw [hv]; rfl))]
    exact hg
theorem Lst.kept {k : IntKind} {a : Option Addr} {l : List Int} (hL : Lst k w a l) (h : Kept S w w') (hs : ∀ p, a = some p → ¬ S p.block) : Lst k w' a l := by
  rcases hL with rfl | ⟨b, off, rfl, hc⟩
  · exact .inl rfl
  · exact .inr ⟨b, off, rfl, fun i v hv => h.cell (hc i v hv) (hs ⟨b, off, none⟩ rfl)⟩
theorem Blk.grown {row : Option Nat} (h : Blk w g t cs) (hg : w.grownBy w' row) (hne : row = none ∨ row ≠ some g) : Blk w' g t cs := by
  refine (hg.block g h.lt ?_).trans h
  rcases hne with rfl | hne
  · simp
  · exact fun e => hne e.symm
end

theorem run_append_lst_at {P : Program} (w : World) (base : Nat) (t ty e : TypeId) (k : IntKind) (i : TypeInfo) (z : Value) (bytes : Nat) (ht : P.underlying t = some (.slice e)) (hi : P.info? e = some i) (hz : i.zero = some z)
    (hsize : i.size = 1) (hby : i.bytes = bytes) (hzs : z.cells.size = 1) (v : Value) (n : Nat) (l : List Int) (hown : w.ownsRow base e 1 v n (l.map (Value.int k)))
    (a : Option Addr) (c : Nat) (y : List Int) (hL : Lst k w a y) (h63 : n + y.length ≤ 1073741824) (hbytes : bytes ≤ 1024) (hbase : base ≤ w.heap.size) :
    ∃ v' w', (Builtin.append_ #[t, t] ty #[v, .slice a y.length c]).run P w = .ok v' w' ∧ w'.ownsRow base e 1 v' (n + y.length) ((l ++ y).map (Value.int k)) ∧ w.grownBy w' v.ownBlock ∧ (v'.ownBlock = v.ownBlock ∨ v'.ownBlock = some w.heap.size) := by
  have hb : (n + y.length) * bytes ≤ 140737488355328 := by
    have : (n + y.length) * bytes ≤ 1073741824 * 1024 := Nat.mul_le_mul h63 hbytes
    omega
  rcases hL with rfl | ⟨b, off, rfl, hc⟩
  · refine ⟨v, w, ?_, by simpa using hown, ⟨rfl, rfl, rfl, Nat.le_refl _, fun _ _ _ => rfl⟩, .inl rfl⟩
    have hl : ∀ a, (loadCells a 0).run P w = .ok #[] w := fun _ => rfl
    have hs : ∀ a, (storeCells a []).run P w = .ok () w := fun _ => rfl
    rcases hown.2 with ⟨rfl, rfl⟩ | ⟨g, cap, cur, rfl, _, hg, hn, _⟩
    · cases a <;> simp [Builtin.append_, run_underlying ht, sizeOf, typeInfo, hi, Builtin.lenOf, Builtin.firstCells, hl]
    · cases a <;> simp [Builtin.append_, run_underlying ht, sizeOf, typeInfo, hi, Builtin.lenOf, Builtin.firstCells, hn, hl, hs]
  · obtain ⟨v', w', hr, h2, h3, _, h5⟩ := run_append_own_at (P := P) w base t ty e i z 1 bytes ht hi hz hsize hby hzs (by decide) v n _ hown ⟨b, off, none⟩ y.length c (y.map (Value.int k)) (by simp) (by
        intro j u hu
        rw [List.getElem?_map] at hu
        obtain ⟨u', hu', rfl⟩ : ∃ u', y[j]? = some u' ∧ u = .int k u' := by
          cases hy : y[j]? with
          | none => rw [hy] at hu; simp at hu
          | some x => rw [hy] at hu; simp at hu; exact ⟨x, rfl, hu.symm⟩
        rw [Addr.add_lit]
        exact hc j u' hu') (by simp [Value.oneCell']) (by unfold maxLen; omega) hb hbase
    exact ⟨v', w', hr, by rw [List.map_append]; exact h2, h3, h5⟩

theorem wpList_append_lst_at {P : Program} {w : World} {ops : Array Oper} {rest : List Oper} {o : Oper} {ac : Act} {Q : Exit → Act → World → Prop} (hgd : o.guard = none) (s x : Operand) (t : TypeId)
    (ho : o.op = .call { callee := .builtin .append, args := #[s, x], argTypes := #[t, t] })
    (base : Nat) (e : TypeId) (k : IntKind) (i : TypeInfo) (z : Value) (bytes : Nat) (ht : P.underlying t = some (.slice e)) (hi : P.info? e = some i) (hz : i.zero = some z)
    (hsize : i.size = 1) (hby : i.bytes = bytes) (hzs : z.cells.size = 1) (v : Value) (n : Nat) (l : List Int) (hs : ac.eval s = v) (hown : w.ownsRow base e 1 v n (l.map (Value.int k)))
    (a : Option Addr) (m c : Nat) (y : List Int) (hx : ac.eval x = .slice a m c) (hm : y.length = m) (hL : Lst k w a y) (h63 : n + m ≤ 1073741824) (hbytes : bytes ≤ 1024) (hbase : base ≤ w.heap.size)
    (h : ∀ v' w', w'.ownsRow base e 1 v' (n + m) ((l ++ y).map (Value.int k)) → w.grownBy w' v.ownBlock → (v'.ownBlock = v.ownBlock ∨ v'.ownBlock = some w.heap.size) → wpList P ops Q rest (ac.put o.dst v') w') :
    wpList P ops Q (o :: rest) ac w := by
  subst hm
  obtain ⟨v', w', hr, h2, h3, h4⟩ := run_append_lst_at (P := P) w base t o.type e k i z bytes ht hi hz hsize hby hzs v n l hown a c y hL h63 hbytes hbase
  refine wpList_plain hgd fun K' hK' => ?_
  unfold Oper.wp execOp
  simp only [ho, resolve, invoke, builtin, Sem.run_bind, Sem.run_pure, Result.andThen_ok, List.map_toArray, List.map_cons, List.map_nil, hs, hx, hr]
  exact hK' _ _ (h v' w' h2 h3 h4)
end Go.Proofs.Ytpbdgfgjlccapaa.ba
