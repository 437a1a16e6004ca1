/-
  The walks of layer 12: versions that the call owns; append; Clone, List, Len.
-/
import Derived.Test.YtpbdgfgjlccapaaChnC
namespace Go.Proofs.Ytpbdgfgjlccapaa.cw
open Go.RowKit Go.Proofs.Ytpbdgfgjlccapaa.ba Go.Proofs.Ytpbdgfgjlccapaa.rp Go.Proofs.Ytpbdgfgjlccapaa.cp
set_option maxRecDepth 8000
set_option linter.unusedVariables false

/-- Versions that the call owns. -/
def VO (w : World) (base : Nat) (v : Value) (L : List V) : Prop := w.ownsRow base 43 11 v L.length (L.flatMap vcells)
theorem vflat_len (L : List V) : (L.flatMap vcells).length = L.length * 11 := by
  induction L with
  | nil => rfl
  | cons x xs ih => rw [List.flatMap_cons, List.length_append, ih, List.length_cons, show (vcells x).length = 11 from rfl]; omega
theorem vflat_at (L : List V) : ∀ (i j : Nat) (f : V) (v : Value), L[i]? = some f → (vcells f)[j]? = some v → (L.flatMap vcells)[i * 11 + j]? = some v := by
  induction L with
  | nil => intro i j f v h; simp at h
  | cons x xs ih =>
    intro i j f v h hj
    have hlj : j < 11 := by
      rcases Nat.lt_or_ge j 11 with h1 | h1
      · exact h1
      · rw [List.getElem?_eq_none (by simpa [vcells] using h1)] at hj; cases hj
    rw [List.flatMap_cons]
    cases i with
    | zero =>
      simp at h
      subst h
      rw [List.getElem?_append_left (by simp [vcells]; omega), Nat.zero_mul, Nat.zero_add]
      exact hj
    | succ i =>
      rw [List.getElem?_append_right (by simp [vcells]; omega), show (i + 1) * 11 + j - (vcells x).length = i * 11 + j from by simp [vcells]; omega]
      exact ih i j f v (by simpa using h) hj
/-- A version's cells, one by one. -/
theorem vat_of {w : World} {b o : Nat} {v : V} (h : ∀ j u, (vcells v)[j]? = some u → w.cell? ⟨b, o + j, none⟩ = some u) : VAt w ⟨b, o, none⟩ v :=
  ⟨h 0 _ rfl, h 1 _ rfl, h 2 _ rfl, h 3 _ rfl, h 4 _ rfl, h 5 _ rfl, h 6 _ rfl, h 7 _ rfl, h 8 _ rfl, h 9 _ rfl, h 10 _ rfl⟩
theorem vat_to {w : World} {b o : Nat} {v : V} (h : VAt w ⟨b, o, none⟩ v) {j : Nat} {u : Value} (hj : (vcells v)[j]? = some u) : w.cell? ⟨b, o + j, none⟩ = some u := by
  obtain ⟨c0, c1, c2, c3, c4, c5, c6, c7, c8, c9, c10⟩ := h
  match j, hj with
  | 0, hj => cases hj; exact c0
  | 1, hj => cases hj; exact c1
  | 2, hj => cases hj; exact c2
  | 3, hj => cases hj; exact c3
  | 4, hj => cases hj; exact c4
  | 5, hj => cases hj; exact c5
  | 6, hj => cases hj; exact c6
  | 7, hj => cases hj; exact c7
  | 8, hj => cases hj; exact c8
  | 9, hj => cases hj; exact c9
  | 10, hj => cases hj; exact c10
  | j + 11, hj => simp [vcells] at hj
theorem VO.vl {w : World} {base : Nat} {v : Value} {L : List V} (h : VO w base v L) : ∃ a c, v = .slice a L.length c ∧ VL w a L := by
  rcases h.2 with ⟨hv, h0⟩ | ⟨g, cap', cur, hv, _⟩
  · have : L = [] := List.length_eq_zero_iff.1 h0
    subst this
    exact ⟨none, 0, hv, .inl rfl⟩
  · refine ⟨_, _, hv, .inr ⟨g, 0, rfl, fun i f hf => vat_of fun j u hj => ?_⟩⟩
    subst hv
    have := h.cells (g := g) rfl (i * 11 + j) _ (vflat_at L i j f _ hf hj)
    rw [Addr.add_lit] at this
    rw [show 0 + i * 11 + j = 0 + (i * 11 + j) from by omega]
    exact this
theorem vflat_inv (L : List V) : ∀ (k : Nat) (u : Value), (L.flatMap vcells)[k]? = some u → ∃ i j f, k = i * 11 + j ∧ L[i]? = some f ∧ (vcells f)[j]? = some u := by
  induction L with
  | nil => intro k u h; simp at h
  | cons x xs ih =>
    intro k u h
    rw [List.flatMap_cons] at h
    rcases Nat.lt_or_ge k 11 with hk | hk
    · rw [List.getElem?_append_left (by simpa [vcells] using hk)] at h
      exact ⟨0, k, x, by omega, rfl, h⟩
    · rw [List.getElem?_append_right (by simpa [vcells] using hk)] at h
      obtain ⟨i, j, f, h1, h2, h3⟩ := ih _ _ h
      refine ⟨i + 1, j, f, ?_, by simpa using h2, h3⟩
      rw [show (vcells x).length = 11 from rfl] at h1
      omega
theorem vcells_one (L : List V) : ∀ u ∈ L.flatMap vcells, u.oneCell' = true := by
  intro u hu
  obtain ⟨f, hf, hu⟩ := List.mem_flatMap.1 hu
  simp [vcells] at hu
  rcases hu with rfl | rfl | rfl | rfl | rfl | rfl | rfl | rfl | rfl | rfl | rfl <;> rfl
theorem infoV : (Try.prog.info? 43).map (fun i => (i.zero, i.size, i.bytes)) = some (some (.agg #[.int .u64 zeroV.a, .bool zeroV.d, .int .u8 zeroV.r.k, .int .u8 zeroV.r.s, .int .u8 zeroV.r.u, .int .u8 zeroV.r.p, .int .u8 zeroV.r.m, .bool zeroV.r.g, .int .u32 zeroV.r.v, .int .u64 zeroV.r.a, .string zeroV.r.t]), 11, 56) := by kernel_rfl

theorem run_append_vs (w : World) (base : Nat) (ty : TypeId) (v : Value) (L : List V) (hown : VO w base v L) (a : Option Addr) (c : Nat) (Y : List V) (hY : VL w a Y) (h63 : L.length + Y.length ≤ 1073741824) (hbase : base ≤ w.heap.size) :
    ∃ v' w', (Builtin.append_ #[22, 22] ty #[v, .slice a Y.length c]).run Try.prog w = .ok v' w' ∧ VO w' base v' (L ++ Y) ∧ w.grownBy w' v.ownBlock ∧ (v'.ownBlock = v.ownBlock ∨ v'.ownBlock = some w.heap.size) := by
  obtain ⟨i0, hi, hz0, hz1, hz2⟩ := info_parts infoV
  rcases hY with rfl | ⟨b, off, rfl, hc⟩
  · refine ⟨v, w, ?_, by simpa using hown, ⟨rfl, rfl, rfl, Nat.le_refl _, fun _ _ _ => rfl⟩, .inl rfl⟩
    have hl : ∀ a, (loadCells a 0).run Try.prog w = .ok #[] w := fun _ => rfl
    have hs : ∀ a, (storeCells a []).run Try.prog w = .ok () w := fun _ => rfl
    rcases hown.2 with ⟨rfl, h0⟩ | ⟨g, cap, cur, rfl, _, hg, hn, _⟩
    · cases a <;> simp [Builtin.append_, run_underlying Try.underlying22, sizeOf, typeInfo, hi, Builtin.lenOf, Builtin.firstCells, hl]
    · cases a <;> simp [Builtin.append_, run_underlying Try.underlying22, sizeOf, typeInfo, hi, Builtin.lenOf, Builtin.firstCells, hn, hl, hs]
  · obtain ⟨v', w', hr, h2, h3, _, h5⟩ := run_append_own_at (P := Try.prog) w base 22 ty 43 i0 _ 11 56 Try.underlying22 hi hz0 hz1 hz2 rfl (by decide) v L.length _ hown ⟨b, off, none⟩ Y.length c (Y.flatMap vcells) (vflat_len Y) (by
        intro k u hu
        obtain ⟨i, j, f, rfl, h1, h2⟩ := vflat_inv Y k u hu
        rw [Addr.add_lit]
        have := vat_to (hc i f h1) h2
        rw [show off + (i * 11 + j) = off + i * 11 + j from by omega]
        exact this) (vcells_one Y) (by unfold maxLen; omega) (by omega) hbase
    refine ⟨v', w', hr, ?_, h3, h5⟩
    unfold VO
    rw [List.length_append, List.flatMap_append]
    exact h2

theorem wpList_append_vs {w : World} {ops : Array Oper} {rest : List Oper} {o : Oper} {ac : Act} {Q : Exit → Act → World → Prop} (hgd : o.guard = none) (s x : Operand)
    (ho : o.op = .call { callee := .builtin .append, args := #[s, x], argTypes := #[22, 22] })
    (base : Nat) (v : Value) (L : List V) (hs : ac.eval s = v) (hown : VO w base v L)
    (a : Option Addr) (m c : Nat) (Y : List V) (hx : ac.eval x = .slice a m c) (hm : Y.length = m) (hY : VL w a Y) (h63 : L.length + m ≤ 1073741824) (hbase : base ≤ w.heap.size)
    (h : ∀ v' w', VO w' base v' (L ++ Y) → w.grownBy w' v.ownBlock → (v'.ownBlock = v.ownBlock ∨ v'.ownBlock = some w.heap.size) → wpList Try.prog ops Q rest (ac.put o.dst v') w') :
    wpList Try.prog ops Q (o :: rest) ac w := by
  subst hm
  obtain ⟨v', w', hr, h2, h3, h4⟩ := run_append_vs w base o.type v L hown a c Y hY h63 hbase
  refine wpList_plain hgd fun K' hK' => ?_
  unfold Oper.wp execOp
  simp only [ho, resolve, invoke, builtin, Sem.run_bind, Sem.run_pure, Result.andThen_ok, List.map_toArray, List.map_cons, List.map_nil, hs, hx, hr]
  exact hK' _ _ (h v' w' h2 h3 h4)

theorem vo_made (w : World) (t : TypeId) (base : Nat) (hb : base ≤ w.heap.size) (ht : t = 43) : VO (w.alloc (.cells #[] t)) base (.slice (some ⟨w.heap.size, 0, none⟩) 0 0) [] := by
  subst ht
  exact ⟨rfl, .inr ⟨w.heap.size, 0, #[], rfl, hb, heap_alloc_new w _, Nat.le_refl _, Nat.zero_le _, rfl, rfl⟩⟩

theorem sl_nil (w : World) : (binOp .eql 22 (.slice none 0 0) (.slice none 0 0)).run Try.prog w = .ok (.bool true) w := by kernel_rfl
theorem sl_some (p : Addr) (n c : Nat) (w : World) : (binOp .eql 22 (.slice (some p) n c) (.slice none 0 0)).run Try.prog w = .ok (.bool false) w := by kernel_rfl
set_option maxRecDepth 100000 in
set_option maxHeartbeats 2000000 in
theorem clone_any (a : Option Addr) (n c : Nat) (L : List V) (w : World) (hn : L.length = n) (hl : n ≤ 1000000) (hL : VL w a L) (hz : a = none → n = 0 ∧ c = 0) :
    Calls Try.prog 28 #[.slice a n c] w fun e w' => ∃ v', e = .returned v' ∧ VO w' w.heap.size v' L ∧ Below w.heap.size w w' := by
  subst hn
  have hs0 := sl_nil
  have hs1 := sl_some
  rcases a with _ | p
  · obtain ⟨h0, rfl⟩ := hz rfl
    have : L = [] := List.length_eq_zero_iff.1 h0
    subst this
    go_enter Try.func28, Try.ntmps28
    go_wp2_with fail
    go_ret
    exact ⟨_, rfl, World.ownsRow_nil _ _ _ _, Below.refl _ _⟩
  · have ho := vo_made w 43 w.heap.size (Nat.le_refl _) rfl
    have hb1 := (Below.refl w.heap.size w).alloc (Nat.le_refl _) (.cells #[] 43)
    have hL' := hL.below hb1
    go_enter Try.func28, Try.ntmps28
    go_wp2_with (at_builtin; refine wpList_append_vs rfl _ _ rfl w.heap.size _ [] rfl ho _ L.length c L rfl rfl hL' (by simp; omega) (by simp) ?_; intro v' w1 ho' hg' hw')
    go_ret
    exact ⟨_, rfl, by simpa using ho', hb1.grown hg' (by simp) (fun k hk => (World.ownsRow.lt ho k hk).1)⟩

set_option maxRecDepth 100000 in
set_option maxHeartbeats 2000000 in
theorem len_any (p : Option Addr) (L : List V) (w : World) (hC : CP w p L) :
    Calls Try.prog 14 #[.pointer p] w fun e w' => e = .returned (.int .i64 (L.length : Int)) ∧ w = w' := by
  obtain ⟨hlen, ⟨rfl, rfl⟩ | ⟨g, o, a, cap, rfl, hg, hL⟩⟩ := hC
  · go_enter Try.func14, Try.ntmps14
    go_wp2_with fail
    go_ret
    exact ⟨rfl, rfl⟩
  · go_enter Try.func14, Try.ntmps14
    go_wp2_with fail
    go_ret
    exact ⟨rfl, rfl⟩

set_option maxRecDepth 100000 in
set_option maxHeartbeats 2000000 in
theorem list_nil (w : World) :
    Calls Try.prog 23 #[.pointer none] w fun e w' => e = .returned (.slice none 0 0) ∧ w = w' := by
  go_enter Try.func23, Try.ntmps23
  go_wp2_with fail
  go_ret
  exact ⟨rfl, rfl⟩
set_option maxRecDepth 100000 in
set_option maxHeartbeats 2000000 in
theorem list_any (g o : Nat) (a : Option Addr) (n c : Nat) (L : List V) (w : World) (hn : L.length = n) (hl : n ≤ 1000000) (hg : w.cell? ⟨g, o, none⟩ = some (.slice a n c)) (hL : VL w a L) (hz : a = none → n = 0 ∧ c = 0) :
    Calls Try.prog 23 #[.pointer (some ⟨g, o, none⟩)] w fun e w' => ∃ v', e = .returned v' ∧ VO w' w.heap.size v' L ∧ Below w.heap.size w w' := by
  go_enter Try.func23, Try.ntmps23
  go_wp2_with (go_at_call 28; refine (clone_any a n c L w hn hl hL hz).mono ?_; rintro e w' ⟨v', rfl, ho, hb⟩)
  go_ret
  exact ⟨_, rfl, ho, hb⟩
end Go.Proofs.Ytpbdgfgjlccapaa.cw
