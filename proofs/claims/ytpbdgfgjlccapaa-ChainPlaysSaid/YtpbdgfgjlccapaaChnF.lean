/-
  The walks of layer 12: Chain's Put.
-/
import Derived.Test.YtpbdgfgjlccapaaChnE
import Derived.Deep.RegionLaw
namespace Go.Proofs.Ytpbdgfgjlccapaa.cw
open Go.RowKit Go.Proofs.Ytpbdgfgjlccapaa.ba Go.Proofs.Ytpbdgfgjlccapaa.rp Go.Proofs.Ytpbdgfgjlccapaa.rw Go.Proofs.Ytpbdgfgjlccapaa.cp
set_option maxRecDepth 8000
set_option linter.unusedVariables false

/-- What one more is told. -/
def put1 (L : List V) (v : V) : Int := if wrongF v ≠ 0 then wrongF v else if v.a ≤ newestF L then 21 else 0
/-- Some more, up to the first error: what is there, how many, the error. -/
def puts (L : List V) : List V → List V × Nat × Int
  | [] => (L, 0, 0)
  | v :: X => if put1 L v ≠ 0 then (L, 0, put1 L v) else ((puts (L ++ [v]) X).1, (puts (L ++ [v]) X).2.1 + 1, (puts (L ++ [v]) X).2.2)
/-- A chain whose versions the call owns. -/
def CS (w : World) (base g : Nat) (q : Option Nat) (L : List V) : Prop := ∃ sv, Blk w g 40 #[sv] ∧ VO w base sv L ∧ sv.ownBlock = q
section
variable {w w' w2 : World} {base g : Nat} {q : Option Nat} {L : List V} {S : Nat → Prop}
theorem CS.ne (h : CS w base g q L) : q ≠ some g := by
  obtain ⟨sv, hB, ho, rfl⟩ := h
  rcases own_ne ho hB (by simp) with h | h
  · rw [h]; simp
  · exact h
theorem CS.lt (h : CS w base g q L) : g < w.heap.size ∧ ∀ j, q = some j → j < w.heap.size := by
  obtain ⟨sv, hB, ho, rfl⟩ := h
  exact ⟨hB.lt, fun j hj => (World.ownsRow.lt ho j hj).2⟩
theorem CS.kept (h : CS w base g q L) (hk : Kept S w w') (hg : ¬ S g) (hq : ∀ j, q = some j → ¬ S j) : CS w' base g q L := by
  obtain ⟨sv, hB, ho, rfl⟩ := h
  exact ⟨sv, hB.kept hk hg, hk.own ho hq, rfl⟩
theorem CS.below (h : CS w base g q L) (hb : Below w.heap.size w w') : CS w' base g q L := h.kept (S := fun _ => False) (Kept.of_below hb) (by simp) (by simp)
theorem CS.cp (h : CS w base g q L) (hl : L.length ≤ 1000000) : CP w (some ⟨g, 0, none⟩) L := by
  obtain ⟨sv, hB, ho, rfl⟩ := h
  obtain ⟨a, c, rfl, hv⟩ := ho.vl
  exact ⟨hl, .inr ⟨g, 0, a, c, rfl, hB.cell 0, hv⟩⟩
end
theorem VAt.keptS {w w' : World} {p : Addr} {v : V} {S : Nat → Prop} (h : VAt w p v) (hk : Kept S w w') (hp : ¬ S p.block) : VAt w' p v := by
  obtain ⟨c0, c1, c2, c3, c4, c5, c6, c7, c8, c9, c10⟩ := h
  exact ⟨hk.cell c0 hp, hk.cell c1 hp, hk.cell c2 hp, hk.cell c3 hp, hk.cell c4 hp, hk.cell c5 hp, hk.cell c6 hp, hk.cell c7 hp, hk.cell c8 hp, hk.cell c9 hp, hk.cell c10 hp⟩
theorem VL.keptS {w w' : World} {a : Option Addr} {L : List V} {S : Nat → Prop} (h : VL w a L) (hk : Kept S w w') (hp : ∀ p, a = some p → ¬ S p.block) : VL w' a L := by
  rcases h with h | ⟨b, off, rfl, h⟩
  · exact .inl h
  · exact .inr ⟨b, off, rfl, fun i v hv => (h i v hv).keptS hk (hp ⟨b, off, none⟩ rfl)⟩

set_option maxRecDepth 100000 in
set_option maxHeartbeats 4000000 in
theorem put_nil (a : Option Addr) (n c : Nat) (w : World) :
    Calls Try.prog 19 #[.pointer none, .slice a n c] w fun e w' => e = .returned (.tuple #[.int .i64 0, .int .i64 9]) ∧ w = w' := by
  go_enter Try.func19, Try.ntmps19
  go_wp2_with fail
  refine bodyPost_ret (results_tmp2 rfl _ _ _) rfl ?_
  exact ⟨rfl, rfl⟩

theorem puts_step (L X : List V) (k : Nat) (v : V) (hv : X[k]? = some v) : puts L (X.drop k) = if put1 L v ≠ 0 then (L, 0, put1 L v) else ((puts (L ++ [v]) (X.drop (k + 1))).1, (puts (L ++ [v]) (X.drop (k + 1))).2.1 + 1, (puts (L ++ [v]) (X.drop (k + 1))).2.2) := by
  obtain ⟨h1, h2⟩ := List.getElem?_eq_some_iff.1 hv
  rw [List.drop_eq_getElem_cons h1, h2]
  rfl

theorem vat0 {w : World} {b : Nat} {v : V} (h : VAt w ⟨b, 0, none⟩ v) : w.cell? ⟨b, 0, none⟩ = some (.int .u64 v.a) ∧ w.cell? ⟨b, 1, none⟩ = some (.bool v.d) ∧ w.cell? ⟨b, 2, none⟩ = some (.int .u8 v.r.k) ∧ w.cell? ⟨b, 3, none⟩ = some (.int .u8 v.r.s) ∧ w.cell? ⟨b, 4, none⟩ = some (.int .u8 v.r.u) ∧ w.cell? ⟨b, 5, none⟩ = some (.int .u8 v.r.p) ∧ w.cell? ⟨b, 6, none⟩ = some (.int .u8 v.r.m) ∧ w.cell? ⟨b, 7, none⟩ = some (.bool v.r.g) ∧ w.cell? ⟨b, 8, none⟩ = some (.int .u32 v.r.v) ∧ w.cell? ⟨b, 9, none⟩ = some (.int .u64 v.r.a) ∧ w.cell? ⟨b, 10, none⟩ = some (.string v.r.t) := by
  have hh := h
  unfold VAt at hh
  simpa using hh
theorem vl_new (w : World) (v : V) : VL (w.alloc (.cells (#[.int .u64 v.a, .bool v.d, .int .u8 v.r.k, .int .u8 v.r.s, .int .u8 v.r.u, .int .u8 v.r.p, .int .u8 v.r.m, .bool v.r.g, .int .u32 v.r.v, .int .u64 v.r.a, .string v.r.t]) 43)) (some ⟨w.heap.size, 0, none⟩) [v] := by
  refine .inr ⟨w.heap.size, 0, rfl, fun i f hf => ?_⟩
  match i, hf with
  | 0, hf =>
    cases hf
    exact vat_new w v
  | i + 1, hf => simp at hf
theorem VO.alloc {w : World} {base : Nat} {v : Value} {L : List V} (h : VO w base v L) (o : Obj) : VO (w.alloc o) base v L := World.ownsRow.alloc h o
theorem blk_after {w : World} {g : Nat} {t : TypeId} {sv : Value} {row : Option Nat} (h : Blk w g t #[sv]) (hr : row ≠ some g) : ∀ w', w.grownBy w' row → w'.cell? ⟨g, 0, none⟩ = some sv ∧ w'.frozen? ⟨g, 0, none⟩ = false ∧ Blk w' g t #[sv] :=
  fun w' hg => ⟨(h.grown hg (.inr hr)).cell 0, (h.grown hg (.inr hr)).frozen 0, h.grown hg (.inr hr)⟩
theorem CS.put {w : World} {base g : Nat} {sv v : Value} {L : List V} (hO : VO w base v L) (hB : Blk w g 40 #[sv]) : CS (w.setCell ⟨g, 0, none⟩ v) base g v.ownBlock L := by
  refine ⟨v, hB.set_ 0 v, ?_, rfl⟩
  refine (Kept.of_set (S := fun j => j = g) (p := ⟨g, 0, none⟩) v rfl).own hO (fun j hj e => ?_)
  subst e
  rcases own_ne hO hB (by simp) with h | h
  · rw [h] at hj; cases hj
  · exact h hj
theorem put_kept {w w5 : World} {g : Nat} {o : Obj} {sv u : Value} {q : Option Nat} (hg : (w.alloc o).grownBy w5 sv.ownBlock) (hq : sv.ownBlock = q) : Kept (fun j => j = g ∨ q = some j) w (w5.setCell ⟨g, 0, none⟩ u) :=
  ((Kept.of_alloc o).on (Kept.of_grown hg (fun j hj => .inr (hq ▸ hj)))).on (Kept.of_set u (.inl rfl))

theorem step_append_vs {w : World} {ops : Array Oper} {o : Oper} {ac : Act} {K : Act → World → Prop} {Q : Exit → Act → World → Prop} {E : Prop} (hgd : o.guard = none) (s x : Operand)
    (ho : o.op = .call { callee := .builtin .append, args := #[s, x], argTypes := #[22, 22] })
    (base : Nat) (v : Value) (L : List V) (hs : ac.eval s = v) (hown : VO w base v L)
    (a : Option Addr) (m c : Nat) (Y : List V) (hx : ac.eval x = .slice a m c) (hm : Y.length = m) (hY : VL w a Y) (h63 : L.length + m ≤ 1073741824) (hbase : base ≤ w.heap.size)
    (h : ∀ v' w', VO w' base v' (L ++ Y) → w.grownBy w' v.ownBlock → (v'.ownBlock = v.ownBlock ∨ v'.ownBlock = some w.heap.size) → K (ac.put o.dst v') w') :
    if Region.wanted o (yielded ops ac.tmps) = true then Oper.wp Try.prog o ac w K Q else E := by
  have hw : Region.wanted o (yielded ops ac.tmps) = true := by simp [Region.wanted, hgd]
  rw [if_pos hw]
  subst hm
  obtain ⟨v', w', hr, h2, h3, h4⟩ := run_append_vs w base o.type v L hown a c Y hY h63 hbase
  unfold Oper.wp execOp
  simp only [ho, resolve, invoke, builtin, Sem.run_bind, Sem.run_pure, Result.andThen_ok, List.map_toArray, List.map_cons, List.map_nil, hs, hx, hr]
  exact h v' w' h2 h3 h4
theorem vl_drew {w : World} {v : V} : VL (w.alloc (.cells (#[.int .u64 v.a, .bool v.d, .int .u8 v.r.k, .int .u8 v.r.s, .int .u8 v.r.u, .int .u8 v.r.p, .int .u8 v.r.m, .bool v.r.g, .int .u32 v.r.v, .int .u64 v.r.a, .string v.r.t]) 43)).drew (some ⟨w.heap.size, 0, none⟩) [v] := vl_new w v
theorem VO.drew {w : World} {base : Nat} {v : Value} {L : List V} (h : VO w base v L) : VO w.drew base v L := h
theorem put_kept_d {w w5 : World} {g : Nat} {o : Obj} {sv u : Value} {q : Option Nat} (hg : (w.alloc o).drew.grownBy w5 sv.ownBlock) (hq : sv.ownBlock = q) : Kept (fun j => j = g ∨ q = some j) w (w5.setCell ⟨g, 0, none⟩ u) :=
  (((Kept.of_alloc o).on Kept.of_drew).on (Kept.of_grown hg (fun j hj => .inr (hq ▸ hj)))).on (Kept.of_set u (.inl rfl))
/-- Where Put's loop is: k are put, L' is there. -/
structure PL (w W : World) (base g : Nat) (q : Option Nat) (L X : List V) (k : Nat) (L' : List V) (q' : Option Nat) : Prop where
  kk : k ≤ X.length
  c : CS W base g q' L'
  p : puts L X = ((puts L' (X.drop k)).1, k + (puts L' (X.drop k)).2.1, (puts L' (X.drop k)).2.2)
  l : L'.length ≤ L.length + k
  s : Kept (fun j => j = g ∨ q = some j) w W
  o : q' = q ∨ ∃ j, q' = some j ∧ w.heap.size ≤ j
theorem PL.start {w : World} {base g : Nat} {q : Option Nat} {L X : List V} (h : CS w base g q L) : PL w w base g q L X 0 L q :=
  ⟨Nat.zero_le _, h, by simp, by simp, Kept.refl _ _, .inl rfl⟩
theorem PL.below {w W W' : World} {base g k : Nat} {q q' : Option Nat} {L X L' : List V} (h : PL w W base g q L X k L' q') (hb : Below W.heap.size W W') : PL w W' base g q L X k L' q' :=
  ⟨h.kk, h.c.below hb, h.p, h.l, h.s.trans (S' := fun _ => False) (Kept.of_below hb) (by simp), h.o⟩
/-- What Put leaves. -/
structure PD (w W : World) (base g : Nat) (q : Option Nat) (L' : List V) : Prop where
  c : ∃ q', CS W base g q' L' ∧ (q' = q ∨ ∀ j, q' = some j → w.heap.size ≤ j)
  s : Kept (fun j => j = g ∨ q = some j) w W
theorem PL.out {w W : World} {base g k : Nat} {q q' : Option Nat} {L X L' : List V} (h : PL w W base g q L X k L' q') : PD w W base g q L' := ⟨⟨q', h.c, h.o.imp id (fun ⟨j, h1, h2⟩ j' hj' => by rw [h1] at hj'; cases hj'; exact h2)⟩, h.s⟩

theorem PL.stop {w W : World} {base g k : Nat} {q q' : Option Nat} {L X L' : List V} {v : V} {e : Int} (h : PL w W base g q L X k L' q') (hv : X[k]? = some v) (he : put1 L' v = e) (hne : e ≠ 0) : puts L X = (L', k, e) := by
  rw [h.p, puts_step L' X k v hv, he, if_pos hne]
  rfl
theorem PL.next {w W W' : World} {base g k : Nat} {q q' q2 : Option Nat} {L X L' : List V} {v : V} (h : PL w W base g q L X k L' q') (hv : X[k]? = some v) (he : put1 L' v = 0) (hb : base ≤ w.heap.size)
    (hC : CS W' base g q2 (L' ++ [v])) (hs : Kept (fun j => j = g ∨ q' = some j) W W') (ho : q2 = q' ∨ ∃ j, q2 = some j ∧ W.heap.size ≤ j) : PL w W' base g q L X (k + 1) (L' ++ [v]) q2 := by
  refine ⟨(List.getElem?_eq_some_iff.1 hv).1, hC, ?_, by have := h.l; rw [List.length_append]; simp; omega, h.s.trans hs ?_, ?_⟩
  · rw [h.p, puts_step L' X k v hv, he, if_neg (by simp)]
    simp only [Prod.mk.injEq, true_and, and_true]
    omega
  · rintro j hj (rfl | hq)
    · exact .inl rfl
    · rcases h.o with h1 | ⟨j', h1, h2⟩
      · exact .inr (h1 ▸ hq)
      · rw [h1] at hq
        cases hq
        omega
  · rcases ho with h1 | ⟨j, h1, h2⟩
    · rw [h1]; exact h.o
    · exact .inr ⟨j, h1, Nat.le_trans h.s.size h2⟩
set_option maxRecDepth 100000 in
set_option maxHeartbeats 4000000 in
theorem put_any (base g : Nat) (q : Option Nat) (a : Option Addr) (n c : Nat) (L X : List V) (w : World) (hX : VL w a X) (hn : X.length = n) (hXok : ∀ v ∈ X, v.ok) (hC : CS w base g q L) (hbase : base ≤ w.heap.size) (hl : L.length + n ≤ 100000)
    (hap : ∀ p, a = some p → ¬ (p.block = g ∨ q = some p.block)) :
    Calls Try.prog 19 #[.pointer (some ⟨g, 0, none⟩), .slice a n c] w fun e w' => e = .returned (.tuple #[.int .i64 ((puts L X).2.1 : Int), .int .i64 (puts L X).2.2]) ∧ PD w w' base g q (puts L X).1 := by
  subst hn
  go_enter Try.func19, Try.ntmps19
  go_wp2_with fail
  go_loopw [13] (fun i wr => ∃ (k : Nat) (L' : List V) (q' : Option Nat), i = .int .i64 k ∧ PL w wr base g q L X k L' q') (fun i _ => X.length - (intOf i).toNat)
  case atStart => exact ⟨0, L, q, rfl, PL.start hC⟩
  case round =>
    obtain ⟨k, L', q', rfl, hP⟩ := hrel
    have hk := hP.kk
    by_cases hlt : k < X.length
    · obtain ⟨v, hv⟩ : ∃ v, X[k]? = some v := ⟨_, List.getElem?_eq_getElem hlt⟩
      have hvok := hXok v (List.mem_of_getElem? hv)
      rcases hX with h0 | ⟨b, off, rfl, hc⟩
      · subst h0; simp at hlt
      obtain ⟨c0, c1, c2, c3, c4, c5, c6, c7, c8, c9, c10⟩ := (hc k v hv).keptS hP.s (hap ⟨b, off, none⟩ rfl)
      have hlti : (k : Int) < (X.length : Int) := by omega
      have hb0 : Below wr.heap.size wr (wr.alloc (.cells (#[.int .u64 v.a, .bool v.d, .int .u8 v.r.k, .int .u8 v.r.s, .int .u8 v.r.u, .int .u8 v.r.p, .int .u8 v.r.m, .bool v.r.g, .int .u32 v.r.v, .int .u64 v.r.a, .string v.r.t]) 43)) := (Below.refl _ _).alloc (Nat.le_refl _) _
      have hva := vat_new wr v
      have HW := Lib.hid (wrong_any v (wr.alloc (.cells (#[.int .u64 v.a, .bool v.d, .int .u8 v.r.k, .int .u8 v.r.s, .int .u8 v.r.u, .int .u8 v.r.p, .int .u8 v.r.m, .bool v.r.g, .int .u32 v.r.v, .int .u64 v.r.a, .string v.r.t]) 43)) hvok)
      have HP := Lib.hid hP
      have HST := Lib.hid (puts_step L' X k v hv)
      have HVA := Lib.hid hva
      have HB0 := Lib.hid hb0
      clear hc hap hvok hC hva hb0 hP
      rcases Decidable.em (wrongF v = 0) with hw0 | hw0
      · rw [hw0] at HW
        go_wp2_with (go_at_call 33; ((with_reducible refine HW.out.mono ?_); rintro x w1 ⟨rfl, hb1⟩))
        have hb01 : Below wr.heap.size wr w1 := bthen HB0.out hb1
        have hP1 := HP.out.below hb01
        have d0 : w1.cell? ⟨wr.heap.size, 0, none⟩ = some (.int .u64 v.a) := bsome hb1 HVA.out.1 (by simp)
        have HV1 := Lib.hid (HVA.out.below hb1)
        have HN := Lib.hid fun (W : World) (h : Below w1.heap.size w1 W) => newest_any (some ⟨g, 0, none⟩) L' W ((hP1.c.below h).cp (by have := hP1.l; omega))
        have hbW : Below w1.heap.size w1 w1 := Below.refl _ _
        have HB01 := Lib.hid hb01
        have hlt1 : wr.heap.size < w1.heap.size := World.block_lt_of_cell? _ _ d0
        clear hb1 HB0 HVA HW hb01 hP1
        rcases Int.lt_or_le (newestF L') v.a with hnew | hold
        · have hnw : ¬ v.a ≤ newestF L' := by omega
          have d0d : w1.drew.cell? ⟨wr.heap.size, 0, none⟩ = some (.int .u64 v.a) := d0
          go_region_held3 (fun w' => w'.cell? ⟨wr.heap.size, 0, none⟩ = some (.int .u64 v.a)) (first | with_reducible assumption | fail)
            (first
              | (go_at_call 11; ((with_reducible refine (HN.out _ (bdry hbW)).mono ?_); rintro x w3 ⟨rfl, hb3⟩; have d1 : w3.cell? ⟨wr.heap.size, 0, none⟩ = some (.int .u64 v.a) := bsome hb3 d0 hlt1))
              | fail)
          all_goals
            have hb13 : Below w1.heap.size w1 w3 := (bdry hbW).trans hb3
            have hP3 := HP.out.below (bthen HB01.out hb13)
            obtain ⟨v0, v1, v2, v3, v4, v5, v6, v7, v8, v9, v10⟩ := vat0 (HV1.out.below hb13)
            obtain ⟨sv, hB3, hO3, hq3⟩ := hP3.c
            obtain ⟨sa, scap, rfl, hsv⟩ := hO3.vl
            have HP3 := Lib.hid hP3
            have HO3 := Lib.hid hO3
            have HB3 := Lib.hid hB3
            have e0 : w3.cell? ⟨g, 0, none⟩ = some (.slice sa L'.length scap) := hB3.cell 0
            have f0 : w3.frozen? ⟨g, 0, none⟩ = false := hB3.frozen 0
            have hp0 : put1 L' v = 0 := by unfold put1; rw [if_neg (by simp [hw0]), if_neg (by omega)]
            have HP0 := Lib.hid hp0
            clear hb3 hbW HN hP3 hB3 hO3 hsv hp0 HV1 HB01 HP d0 d0d d1 hb13
            go_wp2_with fail
            have HX4 := Lib.hid hq3
            clear hq3
            have hqg := HP3.out.c.ne
            have HY := Lib.hid (vl_drew (w := w3) (v := v))
            have HO5 := Lib.hid (VO.drew (VO.alloc HO3.out (.cells (#[.int .u64 v.a, .bool v.d, .int .u8 v.r.k, .int .u8 v.r.s, .int .u8 v.r.u, .int .u8 v.r.p, .int .u8 v.r.m, .bool v.r.g, .int .u32 v.r.v, .int .u64 v.r.a, .string v.r.t]) 43)))
            have HL5 : L'.length + 1 ≤ 1073741824 := by have := HP3.out.l; omega
            have HZ5 : base ≤ (w3.alloc (.cells (#[.int .u64 v.a, .bool v.d, .int .u8 v.r.k, .int .u8 v.r.s, .int .u8 v.r.u, .int .u8 v.r.p, .int .u8 v.r.m, .bool v.r.g, .int .u32 v.r.v, .int .u64 v.r.a, .string v.r.t]) 43)).drew.heap.size := by have := HP3.out.s.size; show base ≤ (w3.alloc _).heap.size; simp; omega
            have HB5 := Lib.hid (HB3.out.alloc (.cells (#[.int .u64 v.a, .bool v.d, .int .u8 v.r.k, .int .u8 v.r.s, .int .u8 v.r.u, .int .u8 v.r.p, .int .u8 v.r.m, .bool v.r.g, .int .u32 v.r.v, .int .u64 v.r.a, .string v.r.t]) 43)).drew
            have f9 := Lib.hid (blk_after HB5.out (row := (Value.slice sa L'.length scap).ownBlock) (by rw [HX4.out]; exact hqg))
            have e0a : (w3.alloc (.cells (#[.int .u64 v.a, .bool v.d, .int .u8 v.r.k, .int .u8 v.r.s, .int .u8 v.r.u, .int .u8 v.r.p, .int .u8 v.r.m, .bool v.r.g, .int .u32 v.r.v, .int .u64 v.r.a, .string v.r.t]) 43)).cell? ⟨g, 0, none⟩ = some (.slice sa L'.length scap) := HB5.out.cell 0
            go_region_law (refine step_append_vs rfl _ _ rfl base (.slice sa L'.length scap) L' rfl HO5.out (some ⟨w3.heap.size, 0, none⟩) 1 1 [v] rfl rfl HY.out HL5 HZ5 ?_; intro v6 w5 hO6 hg6 hat6; obtain ⟨e6, f6, hB6⟩ := f9.out w5 hg6; obtain ⟨a6, c6, hv6, hL6⟩ := hO6.vl; rw [show (L' ++ [v]).length = L'.length + 1 from by simp] at hv6; subst hv6; have HO6 := Lib.hid hO6; have HG6 := Lib.hid hg6; have HAT6 := Lib.hid hat6; have HB6 := Lib.hid hB6; clear hO6 hg6 hat6 hB6)
            all_goals
              go_wp2_with fail
              go_roundw
              case rel => exact ⟨k + 1, L' ++ [v], _, by go_num, HP3.out.next hv HP0.out hbase (CS.put HO6.out HB6.out) (put_kept_d HG6.out HX4.out) (by rw [← HX4.out]; exact HAT6.out.imp id (fun h => ⟨_, h, by show w3.heap.size ≤ (w3.alloc _).heap.size; simp⟩))⟩
              case measure => simp [intOf]; omega
        · have hp1 : put1 L' v = 21 := by unfold put1; rw [if_neg (by omega), if_pos hold]
          have HPU := Lib.hid (HP.out.stop hv hp1 (by decide))
          clear hp1
          have d0d : w1.drew.cell? ⟨wr.heap.size, 0, none⟩ = some (.int .u64 v.a) := d0
          go_region_held3 (fun w' => w'.cell? ⟨wr.heap.size, 0, none⟩ = some (.int .u64 v.a)) (first | with_reducible assumption | fail)
            (first
              | (go_at_call 11; ((with_reducible refine (HN.out _ (bdry hbW)).mono ?_); rintro x w3 ⟨rfl, hb3⟩; have d1 : w3.cell? ⟨wr.heap.size, 0, none⟩ = some (.int .u64 v.a) := bsome hb3 d0 hlt1))
              | fail)
          all_goals
            go_wp2_with fail
            refine bodyPost_ret (results_tmp2 rfl _ _ _) rfl ?_
            rw [HPU.out]
            exact ⟨rfl, (HP.out.below (bthen HB01.out ((bdry hbW).trans hb3))).out⟩
      · have HE := Lib.hid hw0
        go_wp2_with (go_at_call 33; ((with_reducible refine HW.out.mono ?_); rintro x w1 ⟨rfl, hb1⟩))
        refine bodyPost_ret (results_tmp2 rfl _ _ _) rfl ?_
        have hp1 : put1 L' v = wrongF v := by unfold put1; rw [if_pos HE.out]
        rw [HP.out.stop hv hp1 HE.out]
        exact ⟨rfl, (HP.out.below (bthen HB0.out hb1)).out⟩
    · have hke : k = X.length := by omega
      subst hke
      have hfin : puts L X = (L', X.length, 0) := by
        have := hP.p
        rw [List.drop_length] at this
        simpa [puts] using this
      have HP := Lib.hid hP
      go_wp2_with fail
      refine bodyPost_ret (results_tmp2 rfl _ _ _) rfl ?_
      rw [hfin]
      exact ⟨rfl, HP.out.out⟩
end Go.Proofs.Ytpbdgfgjlccapaa.cw
