/-
  The walks of layer 12's document: its versions in memory; append; a version as the document's.
-/
import Derived.Test.YtpbdgfgjlccapaaChnM
import Derived.Deep.RegionLaw
namespace Go.Proofs.Ytpbdgfgjlccapaa.cw
open Go.RowKit Go.Proofs.Ytpbdgfgjlccapaa.ba Go.Proofs.Ytpbdgfgjlccapaa.rp Go.Proofs.Ytpbdgfgjlccapaa.rw Go.Proofs.Ytpbdgfgjlccapaa.cp
set_option maxRecDepth 8000
set_option linter.unusedVariables false
attribute [local go_sem ↓] Go.wp_at_zero Go.wp_at_succ

def dvc (v : V) : List Value := (#[.int .u64 v.a, .bool v.d, .int .i64 v.r.k, .int .i64 v.r.s, .int .i64 v.r.u, .int .i64 v.r.p, .int .i64 v.r.m, .bool v.r.g, .int .u64 v.r.v, .int .u64 v.r.a, .string v.r.t]).toList
/-- The document's versions in memory: a piece of a row of them. -/
def DL (w : World) (a : Option Addr) (L : List V) : Prop :=
  L = [] ∨ ∃ b off cs, a = some ⟨b, off, none⟩ ∧ Blk w b 53 cs ∧ ∀ i v, L[i]? = some v → ∀ j u, (dvc v)[j]? = some u → cs[off + i * 11 + j]? = some u
/-- One among them: its cells. -/
def DAt (w : World) (b o : Nat) (v : V) : Prop :=
  w.cell? ⟨b, o, none⟩ = some (.int .u64 v.a) ∧ w.cell? ⟨b, o + 1, none⟩ = some (.bool v.d) ∧ w.cell? ⟨b, o + 2, none⟩ = some (.int .i64 v.r.k) ∧ w.cell? ⟨b, o + 3, none⟩ = some (.int .i64 v.r.s) ∧ w.cell? ⟨b, o + 4, none⟩ = some (.int .i64 v.r.u) ∧ w.cell? ⟨b, o + 5, none⟩ = some (.int .i64 v.r.p) ∧ w.cell? ⟨b, o + 6, none⟩ = some (.int .i64 v.r.m) ∧ w.cell? ⟨b, o + 7, none⟩ = some (.bool v.r.g) ∧ w.cell? ⟨b, o + 8, none⟩ = some (.int .u64 v.r.v) ∧ w.cell? ⟨b, o + 9, none⟩ = some (.int .u64 v.r.a) ∧ w.cell? ⟨b, o + 10, none⟩ = some (.string v.r.t)
section
variable {w w' : World} {a : Option Addr} {L : List V}
theorem DL.at (h : DL w a L) {k : Nat} {v : V} (hv : L[k]? = some v) : ∃ b off, a = some ⟨b, off, none⟩ ∧ DAt w b (off + k * 11) v := by
  rcases h with rfl | ⟨b, off, cs, rfl, hB, hc⟩
  · simp at hv
  · refine ⟨b, off, rfl, ?_⟩
    have hh : ∀ j u, (dvc v)[j]? = some u → w.cell? ⟨b, off + k * 11 + j, none⟩ = some u := fun j u hj => (hB.cell _).trans (hc k v hv j u hj)
    exact ⟨hh 0 _ rfl, hh 1 _ rfl, hh 2 _ rfl, hh 3 _ rfl, hh 4 _ rfl, hh 5 _ rfl, hh 6 _ rfl, hh 7 _ rfl, hh 8 _ rfl, hh 9 _ rfl, hh 10 _ rfl⟩
theorem DL.kept {S : Nat → Prop} (h : DL w a L) (hk : Kept S w w') (hs : ∀ b cs, Blk w b 53 cs → ¬ S b) : DL w' a L := by
  rcases h with rfl | ⟨b, off, cs, rfl, hB, hc⟩
  · exact .inl rfl
  · exact .inr ⟨b, off, cs, rfl, hB.kept hk (hs b cs hB), hc⟩
theorem DL.below (h : DL w a L) (hb : Below w.heap.size w w') : DL w' a L := h.kept (S := fun _ => False) (Kept.of_below hb) (by simp)
theorem DL.grown (h : DL w a L) {row : Option Nat} (hg : w.grownBy w' row) (hr : ∀ p, a = some p → row ≠ some p.block) : DL w' a L := by
  rcases h with rfl | ⟨b, off, cs, rfl, hB, hc⟩
  · exact .inl rfl
  · exact .inr ⟨b, off, cs, rfl, hB.grown hg (.inr (hr _ rfl)), hc⟩
theorem DL.lt (h : DL w a L) (h0 : L ≠ []) : ∃ p, a = some p ∧ p.block < w.heap.size := by
  rcases h with rfl | ⟨b, off, cs, rfl, hB, hc⟩
  · exact absurd rfl h0
  · exact ⟨_, rfl, hB.lt⟩
theorem DL.tail {v : V} {M : List V} {b off : Nat} (h : DL w (some ⟨b, off, none⟩) (v :: M)) : DL w (some ⟨b, off + 11, none⟩) M := by
  rcases h with h | ⟨b', off', cs, he, hB, hc⟩
  · cases h
  · cases he
    refine .inr ⟨b, off + 11, cs, rfl, hB, fun i f hf j u hj => ?_⟩
    have := hc (i + 1) f (by simpa using hf) j u hj
    rwa [show off + (i + 1) * 11 + j = off + 11 + i * 11 + j from by omega] at this
end
theorem DL.drew {w : World} {a : Option Addr} {L : List V} (h : DL w a L) : DL w.drew a L := h
theorem DL.drewN {w : World} {a : Option Addr} {L : List V} (h : DL w a L) (n : Nat) : DL (w.drewN n) a L := h
theorem DL.nil (w : World) (a : Option Addr) : DL w a [] := .inl rfl
theorem DL.box (w : World) (v : V) : DL (w.alloc (.cells (#[.int .u64 v.a, .bool v.d, .int .i64 v.r.k, .int .i64 v.r.s, .int .i64 v.r.u, .int .i64 v.r.p, .int .i64 v.r.m, .bool v.r.g, .int .u64 v.r.v, .int .u64 v.r.a, .string v.r.t]) 53)) (some ⟨w.heap.size, 0, none⟩) [v] := by
  refine .inr ⟨w.heap.size, 0, _, rfl, Blk.new w _ _, fun i f hf j u hj => ?_⟩
  match i, hf with
  | 0, hf =>
    cases hf
    rw [show 0 + 0 * 11 + j = j from by omega]
    unfold dvc at hj
    simpa using hj
  | i + 1, hf => simp at hf

/-- The document's versions that the call owns. -/
def DO (w : World) (base : Nat) (v : Value) (L : List V) : Prop := w.ownsRow base 53 11 v L.length (L.flatMap dvc)
theorem dflat_len (L : List V) : (L.flatMap dvc).length = L.length * 11 := by
  induction L with
  | nil => rfl
  | cons x xs ih => rw [List.flatMap_cons, List.length_append, ih, List.length_cons, show (dvc x).length = 11 from rfl]; omega
theorem dflat_at (L : List V) : ∀ (i j : Nat) (f : V) (v : Value), L[i]? = some f → (dvc f)[j]? = some v → (L.flatMap dvc)[i * 11 + j]? = some v := by
  induction L with
  | nil => intro i j f v h; simp at h
  | cons x xs ih =>
    intro i j f v h hj
    have hlj : j < 11 := by
      rcases Nat.lt_or_ge j 11 with h1 | h1
      · exact h1
      · rw [List.getElem?_eq_none (by simpa [dvc] using h1)] at hj; cases hj
    rw [List.flatMap_cons]
    cases i with
    | zero =>
      simp at h
      subst h
      rw [List.getElem?_append_left (by simp [dvc]; omega), Nat.zero_mul, Nat.zero_add]
      exact hj
    | succ i =>
      rw [List.getElem?_append_right (by simp [dvc]; omega), show (i + 1) * 11 + j - (dvc x).length = i * 11 + j from by simp [dvc]; omega]
      exact ih i j f v (by simpa using h) hj
theorem dflat_inv (L : List V) : ∀ (k : Nat) (u : Value), (L.flatMap dvc)[k]? = some u → ∃ i j f, k = i * 11 + j ∧ L[i]? = some f ∧ (dvc f)[j]? = some u := by
  induction L with
  | nil => intro k u h; simp at h
  | cons x xs ih =>
    intro k u h
    rw [List.flatMap_cons] at h
    rcases Nat.lt_or_ge k 11 with hk | hk
    · rw [List.getElem?_append_left (by simpa [dvc] using hk)] at h
      exact ⟨0, k, x, by omega, rfl, h⟩
    · rw [List.getElem?_append_right (by simpa [dvc] using hk)] at h
      obtain ⟨i, j, f, h1, h2, h3⟩ := ih _ _ h
      refine ⟨i + 1, j, f, ?_, by simpa using h2, h3⟩
      rw [show (dvc x).length = 11 from rfl] at h1
      omega
theorem dcells_one (L : List V) : ∀ u ∈ L.flatMap dvc, u.oneCell' = true := by
  intro u hu
  obtain ⟨f, hf, hu⟩ := List.mem_flatMap.1 hu
  simp [dvc] at hu
  rcases hu with rfl | rfl | rfl | rfl | rfl | rfl | rfl | rfl | rfl | rfl | rfl <;> rfl
theorem DO.dl {w : World} {base : Nat} {v : Value} {L : List V} (h : DO w base v L) : ∃ a c, v = .slice a L.length c ∧ DL w a L ∧ (∀ p, a = some p → v.ownBlock = some p.block) ∧ L.length ≤ c ∧ c ≤ 9223372036854775807 ∧ (a = none → L.length = 0 ∧ c = 0) := by
  rcases id h.2 with ⟨rfl, h0⟩ | ⟨g, cap', cur, rfl, _, hg, h1, h2, _, ht⟩
  · have : L = [] := List.length_eq_zero_iff.1 h0
    subst this
    exact ⟨none, 0, rfl, .inl rfl, fun p hp => (by cases hp), Nat.le_refl _, by decide, fun _ => ⟨rfl, rfl⟩⟩
  · refine ⟨some ⟨g, 0, none⟩, cap', rfl, .inr ⟨g, 0, cur, rfl, hg, fun i f hf j u hj => ?_⟩, fun p hp => by cases hp; rfl, h1, by unfold maxLen at h2; omega, fun e => by cases e⟩
    have := dflat_at L i j f u hf hj
    rw [← ht, List.getElem?_take] at this
    split at this
    · rw [show 0 + i * 11 + j = i * 11 + j from by omega]
      simpa using this
    · cases this
theorem infoD : (Try.prog.info? 53).map (fun i => (i.zero, i.size, i.bytes)) = some (some (.agg #[.int .u64 zeroV.a, .bool zeroV.d, .int .i64 zeroV.r.k, .int .i64 zeroV.r.s, .int .i64 zeroV.r.u, .int .i64 zeroV.r.p, .int .i64 zeroV.r.m, .bool zeroV.r.g, .int .u64 zeroV.r.v, .int .u64 zeroV.r.a, .string zeroV.r.t]), 11, 96) := by kernel_rfl
theorem drun_append (w : World) (base : Nat) (ty : TypeId) (v : Value) (L : List V) (hown : DO w base v L) (a : Option Addr) (c : Nat) (Y : List V) (hY : DL w a Y) (h63 : L.length + Y.length ≤ 1073741824) (hbase : base ≤ w.heap.size) :
    ∃ v' w', (Builtin.append_ #[41, 41] ty #[v, .slice a Y.length c]).run Try.prog w = .ok v' w' ∧ DO w' base v' (L ++ Y) ∧ w.grownBy w' v.ownBlock ∧ (v'.ownBlock = v.ownBlock ∨ v'.ownBlock = some w.heap.size) := by
  obtain ⟨i0, hi, hz0, hz1, hz2⟩ := info_parts infoD
  rcases hY with rfl | ⟨b, off, cs, rfl, hB, hc⟩
  · refine ⟨v, w, ?_, by simpa using hown, ⟨rfl, rfl, rfl, Nat.le_refl _, fun _ _ _ => rfl⟩, .inl rfl⟩
    have hl : ∀ a, (loadCells a 0).run Try.prog w = .ok #[] w := fun _ => rfl
    have hs : ∀ a, (storeCells a []).run Try.prog w = .ok () w := fun _ => rfl
    rcases hown.2 with ⟨rfl, h0⟩ | ⟨g, cap, cur, rfl, _, hg, hn, _⟩
    · cases a <;> simp [Builtin.append_, run_underlying Try.underlying41, sizeOf, typeInfo, hi, Builtin.lenOf, Builtin.firstCells, hl]
    · cases a <;> simp [Builtin.append_, run_underlying Try.underlying41, sizeOf, typeInfo, hi, Builtin.lenOf, Builtin.firstCells, hn, hl, hs]
  · obtain ⟨v', w', hr, h2, h3, _, h5⟩ := run_append_own_at (P := Try.prog) w base 41 ty 53 i0 _ 11 96 Try.underlying41 hi hz0 hz1 hz2 rfl (by decide) v L.length _ hown ⟨b, off, none⟩ Y.length c (Y.flatMap dvc) (dflat_len Y) (by
        intro k u hu
        obtain ⟨i, j, f, rfl, h1, h2⟩ := dflat_inv Y k u hu
        rw [Addr.add_lit]
        have := (hB.cell _).trans (hc i f h1 j u h2)
        rw [show off + (i * 11 + j) = off + i * 11 + j from by omega]
        exact this) (dcells_one Y) (by unfold maxLen; omega) (by omega) hbase
    refine ⟨v', w', hr, ?_, h3, h5⟩
    unfold DO
    rw [List.length_append, List.flatMap_append]
    exact h2
theorem dstep_append {w : World} {ops : Array Oper} {o : Oper} {ac : Act} {K : Act → World → Prop} {Q : Exit → Act → World → Prop} {E : Prop} (hgd : o.guard = none) (s x : Operand)
    (ho : o.op = .call { callee := .builtin .append, args := #[s, x], argTypes := #[41, 41] })
    (base : Nat) (v : Value) (L : List V) (hs : ac.eval s = v) (hown : DO w base v L)
    (a : Option Addr) (m c : Nat) (Y : List V) (hx : ac.eval x = .slice a m c) (hm : Y.length = m) (hY : DL w a Y) (h63 : L.length + m ≤ 1073741824) (hbase : base ≤ w.heap.size)
    (h : ∀ v' w', DO w' base v' (L ++ Y) → w.grownBy w' v.ownBlock → (v'.ownBlock = v.ownBlock ∨ v'.ownBlock = some w.heap.size) → K (ac.put o.dst v') w') :
    if Region.wanted o (yielded ops ac.tmps) = true then Oper.wp Try.prog o ac w K Q else E := by
  have hw : Region.wanted o (yielded ops ac.tmps) = true := by simp [Region.wanted, hgd]
  rw [if_pos hw]
  subst hm
  obtain ⟨v', w', hr, h2, h3, h4⟩ := drun_append w base o.type v L hown a c Y hY h63 hbase
  unfold Oper.wp execOp
  simp only [ho, resolve, invoke, builtin, Sem.run_bind, Sem.run_pure, Result.andThen_ok, List.map_toArray, List.map_cons, List.map_nil, hs, hx, hr]
  exact h v' w' h2 h3 h4
theorem dwp_append {w : World} {ops : Array Oper} {rest : List Oper} {o : Oper} {ac : Act} {Q : Exit → Act → World → Prop} (hgd : o.guard = none) (s x : Operand)
    (ho : o.op = .call { callee := .builtin .append, args := #[s, x], argTypes := #[41, 41] })
    (base : Nat) (v : Value) (L : List V) (hs : ac.eval s = v) (hown : DO w base v L)
    (a : Option Addr) (m c : Nat) (Y : List V) (hx : ac.eval x = .slice a m c) (hm : Y.length = m) (hY : DL w a Y) (h63 : L.length + m ≤ 1073741824) (hbase : base ≤ w.heap.size)
    (h : ∀ v' w', DO w' base v' (L ++ Y) → w.grownBy w' v.ownBlock → (v'.ownBlock = v.ownBlock ∨ v'.ownBlock = some w.heap.size) → wpList Try.prog ops Q rest (ac.put o.dst v') w') :
    wpList Try.prog ops Q (o :: rest) ac w := by
  subst hm
  obtain ⟨v', w', hr, h2, h3, h4⟩ := drun_append w base o.type v L hown a c Y hY h63 hbase
  refine wpList_plain hgd fun K' hK' => ?_
  unfold Oper.wp execOp
  simp only [ho, resolve, invoke, builtin, Sem.run_bind, Sem.run_pure, Result.andThen_ok, List.map_toArray, List.map_cons, List.map_nil, hs, hx, hr]
  exact hK' _ _ (h v' w' h2 h3 h4)
theorem DO.made (w : World) (base : Nat) (hb : base ≤ w.heap.size) : DO (w.alloc (.cells #[] 53)) base (.slice (some ⟨w.heap.size, 0, none⟩) 0 0) [] :=
  ⟨rfl, .inr ⟨w.heap.size, 0, #[], rfl, hb, heap_alloc_new w _, Nat.le_refl _, Nat.zero_le _, rfl, rfl⟩⟩

set_option maxRecDepth 100000 in
theorem recof_any (r : R) (w : World) (hr : r.ok) :
    Calls Try.prog 21 #[.agg #[.int .u8 r.k, .int .u8 r.s, .int .u8 r.u, .int .u8 r.p, .int .u8 r.m, .bool r.g, .int .u32 r.v, .int .u64 r.a, .string r.t]] w fun x w' => x = .returned (.agg #[.int .i64 r.k, .int .i64 r.s, .int .i64 r.u, .int .i64 r.p, .int .i64 r.m, .bool r.g, .int .u64 r.v, .int .u64 r.a, .string r.t]) ∧ Below w.heap.size w w' := by
  obtain ⟨⟨k0, k1⟩, ⟨s0, s1⟩, ⟨u0, u1⟩, ⟨p0, p1⟩, ⟨m0, m1⟩, ⟨v0, v1⟩, ⟨a0, a1⟩, _⟩ := hr
  have hB := box_b2 w (.cells (#[.int .u8 r.k, .int .u8 r.s, .int .u8 r.u, .int .u8 r.p, .int .u8 r.m, .bool r.g, .int .u32 r.v, .int .u64 r.a, .string r.t]) 30) (.cells (#[.int .i64 r.k, .int .i64 r.s, .int .i64 r.u, .int .i64 r.p, .int .i64 r.m, .bool r.g, .int .u64 r.v, .int .u64 r.a, .string r.t]) 51)
  have HB := Lib.hid hB
  clear hB a1
  go_enter Try.func21, Try.ntmps21
  go_wp2_with fail
  exact bodyPost_ret (v := .agg #[.int .i64 r.k, .int .i64 r.s, .int .i64 r.u, .int .i64 r.p, .int .i64 r.m, .bool r.g, .int .u64 r.v, .int .u64 r.a, .string r.t]) (by simp [results, Try.results21, go_sem]) rfl ⟨rfl, HB.out⟩
end Go.Proofs.Ytpbdgfgjlccapaa.cw
