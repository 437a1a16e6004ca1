/-
  A slice of the call's own that may begin within its array (behind 'x = x[1:]'): what it holds, and append onto it. For whatever program.
-/
import Derived.Test.YtpbdgfgjlccapaaBase
import Derived.ArgAppend
import Derived.Deep.AppendLies
namespace Go.Proofs.Ytpbdgfgjlccapaa.ba
open Go.RowKit
set_option maxRecDepth 8000
set_option linter.unusedVariables false

/-- As 'World.ownsRow', but the slice may begin at a place within its block. -/
def ownsAt (w : World) (base : Nat) (e : TypeId) (size : Nat) (v : Value) (n : Nat) (xs : List Value) : Prop :=
  xs.length = n * size ∧
  ((v = .slice none 0 0 ∧ n = 0) ∨
   ∃ g off cap cur, v = .slice (some ⟨g, off, none⟩) n cap ∧ base ≤ g ∧ w.heap[g]? = some (.cells cur e (0, 0)) ∧ n ≤ cap ∧ cap ≤ maxLen ∧ off + cap * size ≤ cur.size ∧ (cur.toList.drop off).take (n * size) = xs)

section
variable {w : World} {base : Nat} {e : TypeId} {size : Nat} {v : Value} {n : Nat} {xs : List Value}

theorem ownsAt.of_row (h : w.ownsRow base e size v n xs) : ownsAt w base e size v n xs := by
  refine ⟨h.1, ?_⟩
  rcases h.2 with h2 | ⟨g, cap, cur, hv, hb, hg, hn, hm, hs, ht⟩
  · exact .inl h2
  · exact .inr ⟨g, 0, cap, cur, hv, hb, hg, hn, hm, by omega, by simpa using ht⟩

theorem ownsAt.nil (w : World) (base : Nat) (e : TypeId) (size : Nat) : ownsAt w base e size (.slice none 0 0) 0 [] := ⟨by simp, .inl ⟨rfl, rfl⟩⟩

theorem ownsAt.lt (h : ownsAt w base e size v n xs) : ∀ k, v.ownBlock = some k → base ≤ k ∧ k < w.heap.size := by
  intro k hk
  rcases h.2 with ⟨rfl, _⟩ | ⟨g, off, cap, cur, rfl, hb, hg, _⟩
  · simp [Value.ownBlock] at hk
  · simp [Value.ownBlock] at hk
    subst hk
    exact ⟨hb, (Array.getElem?_eq_some_iff.1 hg).1⟩

theorem ownsAt.kept {w' : World} {row : Option Nat} (h : ownsAt w base e size v n xs) (hg : w.grownBy w' row) (hne : v.ownBlock = none ∨ v.ownBlock ≠ row) : ownsAt w' base e size v n xs := by
  refine ⟨h.1, ?_⟩
  rcases h.2 with hn | ⟨g, off, cap, cur, rfl, hb, hgg, rest⟩
  · exact .inl hn
  · refine .inr ⟨g, off, cap, cur, rfl, hb, ?_, rest⟩
    rw [hg.block g (Array.getElem?_eq_some_iff.1 hgg).1 (by simpa [Value.ownBlock] using hne)]
    exact hgg

theorem ownsAt.alloc (h : ownsAt w base e size v n xs) (o : Obj) : ownsAt (w.alloc o) base e size v n xs :=
  h.kept (World.grownBy_alloc w o none) (by cases hv : v.ownBlock <;> simp)

theorem ownsAt.drew (h : ownsAt w base e size v n xs) : ownsAt w.drew base e size v n xs := h

theorem ownsAt.form (h : ownsAt w base e size v n xs) : ∃ a cap, v = .slice a n cap ∧ n ≤ cap ∧ cap ≤ maxLen := by
  rcases h.2 with ⟨rfl, rfl⟩ | ⟨g, off, cap, cur, rfl, _, _, h1, h2, _⟩
  · exact ⟨none, 0, rfl, Nat.le_refl _, Nat.zero_le _⟩
  · exact ⟨_, cap, rfl, h1, h2⟩

/-- The cells that it holds. -/
theorem ownsAt.cells (h : ownsAt w base e size v n xs) (hn : 0 < n) : ∃ g off cap, v = .slice (some ⟨g, off, none⟩) n cap ∧ n ≤ cap ∧ base ≤ g ∧ g < w.heap.size ∧ (∃ cur, w.heap[g]? = some (.cells cur e (0, 0))) ∧
    ∀ j u, xs[j]? = some u → w.cell? ⟨g, off + j, none⟩ = some u := by
  rcases h.2 with ⟨_, h0⟩ | ⟨g, off, cap, cur, rfl, hb, hg, hn, hm, hs, ht⟩
  · omega
  · refine ⟨g, off, cap, rfl, hn, hb, (Array.getElem?_eq_some_iff.1 hg).1, ⟨cur, hg⟩, fun j u hu => ?_⟩
    rw [cell_of_row w g (off + j) cur e (0, 0) hg]
    rw [← ht, List.getElem?_take] at hu
    split at hu
    · rw [List.getElem?_drop] at hu
      simpa using hu
    · cases hu

/-- 'x = x[1:]' where one more is behind the first, or room. -/
theorem ownsAt.tail {g off cap : Nat} (h : ownsAt w base e size (.slice (some ⟨g, off, none⟩) (n + 1) cap) (n + 1) xs) (hc : 1 < cap) : ownsAt w base e size (.slice (some ⟨g, off + size, none⟩) n (cap - 1)) n (xs.drop size) := by
  have hl := h.1
  rcases h.2 with ⟨h0, _⟩ | ⟨g', off', cap', cur, hv, hb, hg, hn, hm, hs, ht⟩
  · cases h0
  · simp only [Value.slice.injEq, Option.some.injEq, Addr.mk.injEq] at hv
    obtain ⟨⟨rfl, rfl, _⟩, _, rfl⟩ := hv
    have e1 : (n + 1) * size = n * size + size := Nat.succ_mul n size
    have e2 : (cap - 1) * size + size = cap * size := by rw [← Nat.succ_mul]; congr 1; omega
    refine ⟨by rw [List.length_drop, hl]; omega, .inr ⟨g, off + size, cap - 1, cur, rfl, hb, hg, by omega, by omega, by omega, ?_⟩⟩
    rw [← ht, List.drop_take, List.drop_drop]
    congr 1
    omega

/-- .. where nothing is behind it (Go keeps the address). -/
theorem ownsAt.tail_last {g off : Nat} (h : ownsAt w base e size (.slice (some ⟨g, off, none⟩) 1 1) 1 xs) : ownsAt w base e size (.slice (some ⟨g, off, none⟩) 0 0) 0 [] := by
  rcases h.2 with ⟨h0, _⟩ | ⟨g', off', cap', cur, hv, hb, hg, hn, hm, hs, ht⟩
  · cases h0
  · simp only [Value.slice.injEq, Option.some.injEq, Addr.mk.injEq] at hv
    obtain ⟨⟨rfl, rfl, _⟩, _, rfl⟩ := hv
    exact ⟨by simp, .inr ⟨g, off, 0, cur, rfl, hb, hg, Nat.le_refl _, Nat.zero_le _, by omega, by simp⟩⟩
end

section
variable {P : Program} (w : World)

theorem run_append_room_off (t ty e : TypeId) (i : TypeInfo) (ht : P.underlying t = some (.slice e)) (hi : P.info? e = some i)
    (g off sLen sCap : Nat) (cur : Array Value) (hg : w.heap[g]? = some (.cells cur e (0, 0)))
    (a : Addr) (m c : Nat) (news : List Value) (hl : news.length = m * i.size) (hnews : ∀ j u, news[j]? = some u → w.cell? (a.add j) = some u) (h1 : ∀ u ∈ news, u.oneCell' = true)
    (hroom : sLen + m ≤ sCap) (hfit : off + sLen * i.size + news.length ≤ cur.size) :
    (Builtin.append_ #[t, t] ty #[.slice (some ⟨g, off, none⟩) sLen sCap, .slice (some a) m c]).run P w =
      .ok (.slice (some ⟨g, off, none⟩) (sLen + m) sCap) (w.setRow g (cur.toList.take (off + sLen * i.size) ++ news ++ cur.toList.drop (off + sLen * i.size + news.length)).toArray) := by
  have hf := run_firstCells_some (P := P) w i.size m a m c news hl hnews
  have hst := run_storeCells_at P g (off + sLen * i.size) e news 0 cur w hg (by simpa using hfit) h1
  simp only [Nat.add_zero] at hst
  simp [Builtin.append_, run_underlying ht, sizeOf, typeInfo, hi, Builtin.lenOf, hroom, hf, Addr.add_lit, hst]

theorem run_append_at (base : Nat) (t ty e : TypeId) (i : TypeInfo) (z : Value) (size bytes : Nat) (ht : P.underlying t = some (.slice e)) (hi : P.info? e = some i) (hz : i.zero = some z)
    (hsize : i.size = size) (hby : i.bytes = bytes) (hzs : z.cells.size = size) (hsz : 0 < size)
    (v : Value) (n : Nat) (xs : List Value) (hown : ownsAt w base e size v n xs)
    (a : Addr) (m c : Nat) (news : List Value) (hl : news.length = m * size) (hnews : ∀ j u, news[j]? = some u → w.cell? (a.add j) = some u) (h1 : ∀ u ∈ news, u.oneCell' = true)
    (h63 : n + m ≤ maxLen) (hbytes : (n + m) * bytes ≤ 140737488355328) (hbase : base ≤ w.heap.size) :
    ∃ v' w', (Builtin.append_ #[t, t] ty #[v, .slice (some a) m c]).run P w = .ok v' w' ∧ ownsAt w' base e size v' (n + m) (xs ++ news) ∧ w.grownBy w' v.ownBlock ∧
      (∀ k, v'.ownBlock = some k → v.ownBlock = some k ∨ w.heap.size ≤ k) := by
  have hlen : (xs ++ news).length = (n + m) * size := by rw [List.length_append, hown.1, hl, Nat.add_mul]
  rcases hown.2 with ⟨rfl, rfl⟩ | ⟨g, off, cap, cur, rfl, hb, hg, hn, hm, hs, htk⟩
  · have hx : xs = [] := List.eq_nil_of_length_eq_zero (by simpa using hown.1)
    subst hx
    obtain ⟨v', w', hr, h2, h3, _, h5⟩ := run_append_own_at (P := P) w base t ty e i z size bytes ht hi hz hsize hby hzs hsz (.slice none 0 0) 0 [] (World.ownsRow_nil w base e size) a m c news hl hnews h1 h63 hbytes hbase
    refine ⟨v', w', hr, .of_row h2, h3, fun k hk => ?_⟩
    rcases h5 with h5 | h5
    · left; rw [← h5]; exact hk
    · right; rw [h5] at hk; simp at hk; omega
  · by_cases hroom : n + m ≤ cap
    · subst hsize
      have hmul : n * i.size + news.length ≤ cap * i.size := by rw [hl, ← Nat.add_mul]; exact Nat.mul_le_mul_right _ hroom
      have hr := run_append_room_off (P := P) w t ty e i ht hi g off n cap cur hg a m c news hl hnews h1 hroom (by omega)
      refine ⟨_, _, hr, ⟨hlen, .inr ⟨g, off, cap, _, rfl, hb, setRow_heap w g cur _ e _ hg, hroom, hm, ?_, ?_⟩⟩, ⟨rfl, rfl, rfl, by simp, fun k _ hk => setRow_other w g k _ (fun e => hk (by simp [Value.ownBlock, e]))⟩, fun k hk => .inl hk⟩
      · simp only [List.size_toArray, List.length_append, List.length_take, List.length_drop, Array.length_toList]
        omega
      · have hcl : cur.toList.length = cur.size := Array.length_toList
        have h0 : (cur.toList.take (off + n * i.size)).drop off = xs := by rw [List.drop_take, show off + n * i.size - off = n * i.size from by omega]; exact htk
        rw [List.append_assoc, List.drop_append_of_le_length (by rw [List.length_take]; omega), h0, ← List.append_assoc, ← hlen]
        exact List.take_left
    · have holds : ∀ j u, xs[j]? = some u → w.cell? ((⟨g, off, none⟩ : Addr).add j) = some u := by
        intro j u hu
        rw [Addr.add_lit, cell_of_row w g (off + j) cur e (0, 0) hg]
        rw [← htk, List.getElem?_take] at hu
        split at hu
        · rw [List.getElem?_drop] at hu
          simpa using hu
        · cases hu
      obtain ⟨v', w', hr, h2, h3⟩ := run_append_arg_grows (P := P) w t ty e i z size bytes ht hi hz hsize hby hzs hsz ⟨g, off, none⟩ n cap xs hown.1 holds a m c news hl hnews (by omega) h63 hbytes
      have hpos : 0 < n + m := by omega
      obtain ⟨g', cap', rfl, hb', _⟩ := h2.form hpos
      refine ⟨_, w', hr, ?_, ⟨h3.os, h3.tape, h3.output, h3.size, fun k hk _ => h3.block k hk (by simp)⟩, ?_⟩
      · have := ownsAt.of_row h2
        refine ⟨this.1, ?_⟩
        rcases this.2 with hx | ⟨g2, o2, c2, cur2, hv2, hb2, r⟩
        · exact .inl hx
        · exact .inr ⟨g2, o2, c2, cur2, hv2, by omega, r⟩
      · intro k hk
        simp [Value.ownBlock] at hk
        right; omega

/-- At a step of a region that draws its order. -/
theorem step_append_at {ops : Array Oper} {o : Oper} {a : Act} {K : Act → World → Prop} {Q : Exit → Act → World → Prop} {E : Prop} (hgd : o.guard = none) (s x : Operand) (t : TypeId)
    (ho : o.op = .call { callee := .builtin .append, args := #[s, x], argTypes := #[t, t] })
    (base : Nat) (e : TypeId) (i : TypeInfo) (z : Value) (size bytes : Nat) (ht : P.underlying t = some (.slice e)) (hi : P.info? e = some i) (hz : i.zero = some z)
    (hsize : i.size = size) (hby : i.bytes = bytes) (hzs : z.cells.size = size) (hsz : 0 < size)
    (v : Value) (n : Nat) (xs : List Value) (hs : a.eval s = v) (hown : ownsAt w base e size v n xs)
    (ad : Addr) (m c : Nat) (news : List Value) (hx : a.eval x = .slice (some ad) m c) (hl : news.length = m * size) (hnews : ∀ j u, news[j]? = some u → w.cell? (ad.add j) = some u) (h1 : ∀ u ∈ news, u.oneCell' = true)
    (h63 : n + m ≤ maxLen) (hbytes : (n + m) * bytes ≤ 140737488355328) (hbase : base ≤ w.heap.size)
    (h : ∀ v' w', ownsAt w' base e size v' (n + m) (xs ++ news) → w.grownBy w' v.ownBlock → (∀ k, v'.ownBlock = some k → v.ownBlock = some k ∨ w.heap.size ≤ k) → K (a.put o.dst v') w') :
    if Region.wanted o (yielded ops a.tmps) = true then Oper.wp P o a w K Q else E := by
  have hw : Region.wanted o (yielded ops a.tmps) = true := by simp [Region.wanted, hgd]
  rw [if_pos hw]
  obtain ⟨v', w', hr, h2, h3, h4⟩ := run_append_at (P := P) w base t o.type e i z size bytes ht hi hz hsize hby hzs hsz v n xs hown ad m c news hl hnews h1 h63 hbytes hbase
  unfold Oper.wp execOp
  simp only [ho, resolve, invoke, builtin, Sem.run_bind, Sem.run_pure, Result.andThen_ok, List.map_toArray, List.map_cons, List.map_nil, hs, hx, hr]
  exact h v' w' h2 h3 h4

/-- 'append(nil, x...)' for a slice x of which the cells are known: a copy in new memory, or nil. -/
theorem run_append_copy (t ty e : TypeId) (i : TypeInfo) (z : Value) (size bytes : Nat) (ht : P.underlying t = some (.slice e)) (hi : P.info? e = some i) (hz : i.zero = some z)
    (hsize : i.size = size) (hby : i.bytes = bytes) (hzs : z.cells.size = size) (hsz : 0 < size) (base : Nat)
    (v : Value) (n : Nat) (xs : List Value) (hown : w.ownsRow base e size v n xs) (h1 : ∀ u ∈ xs, u.oneCell' = true)
    (h63 : n ≤ maxLen) (hbytes : n * bytes ≤ 140737488355328) :
    ∃ v' w', (Builtin.append_ #[t, t] ty #[.slice none 0 0, v]).run P w = .ok v' w' ∧ w'.ownsRow w.heap.size e size v' n xs ∧ w.grownBy w' none := by
  rcases hown.2 with ⟨rfl, rfl⟩ | ⟨g, cap, cur, rfl, hb, hg, hn, hm, hs, htk⟩
  · have hx : xs = [] := List.eq_nil_of_length_eq_zero (by simpa using hown.1)
    subst hx
    refine ⟨.slice none 0 0, w, ?_, World.ownsRow_nil w _ e size, ⟨rfl, rfl, rfl, Nat.le_refl _, fun _ _ _ => rfl⟩⟩
    simp [Builtin.append_, run_underlying ht, sizeOf, typeInfo, hi, Builtin.lenOf, Builtin.firstCells]
  · obtain ⟨v', w', hr, h2, h3, _⟩ := run_append_own (P := P) w w.heap.size t ty e i z size bytes ht hi hz hsize hby hzs hsz (.slice none 0 0) 0 [] (World.ownsRow_nil w _ e size) ⟨g, 0, none⟩ n cap xs hown.1 (hown.cells (g := g) rfl) h1 (by simpa using h63) (by simpa using hbytes) (Nat.le_refl _)
    exact ⟨v', w', hr, by simpa using h2, h3⟩

theorem step_append_copy {ops : Array Oper} {o : Oper} {a : Act} {K : Act → World → Prop} {Q : Exit → Act → World → Prop} {E : Prop} (hgd : o.guard = none) (s x : Operand) (t : TypeId)
    (ho : o.op = .call { callee := .builtin .append, args := #[s, x], argTypes := #[t, t] })
    (e : TypeId) (i : TypeInfo) (z : Value) (size bytes : Nat) (ht : P.underlying t = some (.slice e)) (hi : P.info? e = some i) (hz : i.zero = some z)
    (hsize : i.size = size) (hby : i.bytes = bytes) (hzs : z.cells.size = size) (hsz : 0 < size) (base : Nat)
    (v : Value) (n : Nat) (xs : List Value) (hs : a.eval s = .slice none 0 0) (hx : a.eval x = v) (hown : w.ownsRow base e size v n xs) (h1 : ∀ u ∈ xs, u.oneCell' = true)
    (h63 : n ≤ maxLen) (hbytes : n * bytes ≤ 140737488355328)
    (h : ∀ v' w', w'.ownsRow w.heap.size e size v' n xs → w.grownBy w' none → K (a.put o.dst v') w') :
    if Region.wanted o (yielded ops a.tmps) = true then Oper.wp P o a w K Q else E := by
  have hw : Region.wanted o (yielded ops a.tmps) = true := by simp [Region.wanted, hgd]
  rw [if_pos hw]
  obtain ⟨v', w', hr, h2, h3⟩ := run_append_copy (P := P) w t o.type e i z size bytes ht hi hz hsize hby hzs hsz base v n xs hown h1 h63 hbytes
  unfold Oper.wp execOp
  simp only [ho, resolve, invoke, builtin, Sem.run_bind, Sem.run_pure, Result.andThen_ok, List.map_toArray, List.map_cons, List.map_nil, hs, hx, hr]
  exact h v' w' h2 h3
end

theorem own_mono {w : World} {b b' : Nat} {e : TypeId} {size n : Nat} {v : Value} {xs : List Value} (h : w.ownsRow b' e size v n xs) (hb : b ≤ b') : w.ownsRow b e size v n xs := by
  refine ⟨h.1, ?_⟩
  rcases h.2 with h2 | ⟨g, cap, cur, hv, hb2, r⟩
  · exact .inl h2
  · exact .inr ⟨g, cap, cur, hv, Nat.le_trans hb hb2, r⟩
theorem at_mono {w : World} {b b' : Nat} {e : TypeId} {size n : Nat} {v : Value} {xs : List Value} (h : ownsAt w b' e size v n xs) (hb : b ≤ b') : ownsAt w b e size v n xs := by
  refine ⟨h.1, ?_⟩
  rcases h.2 with h2 | ⟨g, off, cap, cur, hv, hb2, r⟩
  · exact .inl h2
  · exact .inr ⟨g, off, cap, cur, hv, Nat.le_trans hb hb2, r⟩
/-- From within a block to its head, where it begins there: what append leaves of a slice that began at a head. -/
theorem step_append_own {P : Program} (w : World) {ops : Array Oper} {o : Oper} {a : Act} {K : Act → World → Prop} {Q : Exit → Act → World → Prop} {E : Prop} (hgd : o.guard = none) (s x : Operand) (t : TypeId)
    (ho : o.op = .call { callee := .builtin .append, args := #[s, x], argTypes := #[t, t] })
    (base : Nat) (e : TypeId) (i : TypeInfo) (z : Value) (size bytes : Nat) (ht : P.underlying t = some (.slice e)) (hi : P.info? e = some i) (hz : i.zero = some z)
    (hsize : i.size = size) (hby : i.bytes = bytes) (hzs : z.cells.size = size) (hsz : 0 < size)
    (v : Value) (n : Nat) (xs : List Value) (hs : a.eval s = v) (hown : w.ownsRow base e size v n xs)
    (ad : Addr) (m c : Nat) (news : List Value) (hx : a.eval x = .slice (some ad) m c) (hl : news.length = m * size) (hnews : ∀ j u, news[j]? = some u → w.cell? (ad.add j) = some u) (h1 : ∀ u ∈ news, u.oneCell' = true)
    (h63 : n + m ≤ maxLen) (hbytes : (n + m) * bytes ≤ 140737488355328) (hbase : base ≤ w.heap.size)
    (h : ∀ v' w', w'.ownsRow base e size v' (n + m) (xs ++ news) → w.grownBy w' v.ownBlock → K (a.put o.dst v') w') :
    if Region.wanted o (yielded ops a.tmps) = true then Oper.wp P o a w K Q else E := by
  have hw : Region.wanted o (yielded ops a.tmps) = true := by simp [Region.wanted, hgd]
  rw [if_pos hw]
  exact wp_append_own w s x t ho base e i z size bytes ht hi hz hsize hby hzs hsz v n xs hs hown ad m c news hx hl hnews h1 h63 hbytes hbase fun v' w' h2 h3 _ => h v' w' h2 h3

/-- What is owned lies elsewhere than a block of another kind. -/
theorem own_ne {w : World} {base : Nat} {e : TypeId} {size n g : Nat} {v : Value} {xs : List Value} {o : Obj} (h : w.ownsRow base e size v n xs) (hb : w.heap[g]? = some o) (ho : ∀ cur, o ≠ .cells cur e (0, 0)) : v.ownBlock = none ∨ v.ownBlock ≠ some g := by
  rcases h.2 with ⟨rfl, _⟩ | ⟨g', cap, cur, rfl, _, hg, _⟩
  · exact .inl rfl
  · right
    intro e2
    simp [Value.ownBlock] at e2
    subst e2
    rw [hg] at hb
    exact ho cur (Option.some.inj hb).symm
theorem at_ne {w : World} {base : Nat} {e : TypeId} {size n g : Nat} {v : Value} {xs : List Value} {o : Obj} (h : ownsAt w base e size v n xs) (hb : w.heap[g]? = some o) (ho : ∀ cur, o ≠ .cells cur e (0, 0)) : v.ownBlock = none ∨ v.ownBlock ≠ some g := by
  rcases h.2 with ⟨rfl, _⟩ | ⟨g', off, cap, cur, rfl, _, hg, _⟩
  · exact .inl rfl
  · right
    intro e2
    simp [Value.ownBlock] at e2
    subst e2
    rw [hg] at hb
    exact ho cur (Option.some.inj hb).symm
theorem own_at_ne {w : World} {b1 b2 : Nat} {e1 e2 : TypeId} {s1 s2 n1 n2 : Nat} {v1 v2 : Value} {x1 x2 : List Value} (h1 : w.ownsRow b1 e1 s1 v1 n1 x1) (h2 : ownsAt w b2 e2 s2 v2 n2 x2) (hne : e1 ≠ e2) : v1.ownBlock = none ∨ v1.ownBlock ≠ v2.ownBlock := by
  rcases h2.2 with ⟨rfl, _⟩ | ⟨g, off, cap, cur, rfl, _, hg, _⟩
  · cases hv : v1.ownBlock
    · exact .inl rfl
    · right; simp [Value.ownBlock]
  · exact own_ne h1 hg (fun cur' e => hne (by simp at e; exact e.2.symm))
end Go.Proofs.Ytpbdgfgjlccapaa.ba
