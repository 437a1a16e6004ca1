/-
  The walk of the law ChainSees: two chains of the call's own; at each pin the same is seen behind trimming.
-/
import Derived.Test.YtpbdgfgjlccapaaChnK
import Derived.Deep.RegionHeld3
namespace Go.Proofs.Ytpbdgfgjlccapaa.cw
open Go.RowKit Go.Proofs.Ytpbdgfgjlccapaa.ba Go.Proofs.Ytpbdgfgjlccapaa.rp Go.Proofs.Ytpbdgfgjlccapaa.rw Go.Proofs.Ytpbdgfgjlccapaa.cp
set_option maxRecDepth 8000
set_option linter.unusedVariables false
attribute [local go_sem ↓] Go.wp_at_zero Go.wp_at_succ

/-- Two chains of the call's own, apart. -/
structure Two (w w' : World) (g1 g2 : Nat) (L1 L2 : List V) : Prop where
  c : ∃ q1 q2, CS w' w.heap.size g1 q1 L1 ∧ CS w' w.heap.size g2 q2 L2 ∧ (∀ j, q1 = some j → w.heap.size ≤ j) ∧ (∀ j, q2 = some j → w.heap.size ≤ j) ∧ q1 ≠ some g2 ∧ q2 ≠ some g1 ∧ ∀ j, q1 = some j → q2 ≠ some j
  l1 : w.heap.size ≤ g1
  l2 : w.heap.size ≤ g2
  ne : g1 ≠ g2
  b : Below w.heap.size w w'
section
variable {w w1 w2 : World} {g1 g2 : Nat} {L1 L2 : List V}
theorem Two.swap (h : Two w w1 g1 g2 L1 L2) : Two w w1 g2 g1 L2 L1 := by
  obtain ⟨q1, q2, h1, h2, h3, h4, h5, h6, h7⟩ := h.c
  exact ⟨⟨q2, q1, h2, h1, h4, h3, h6, h5, fun j hj hk => h7 j hk hj⟩, h.l2, h.l1, h.ne.symm, h.b⟩
theorem Two.below (h : Two w w1 g1 g2 L1 L2) (hb : Below w1.heap.size w1 w2) : Two w w2 g1 g2 L1 L2 := by
  obtain ⟨q1, q2, h1, h2, h3, h4, h5, h6, h7⟩ := h.c
  exact ⟨⟨q1, q2, h1.below hb, h2.below hb, h3, h4, h5, h6, h7⟩, h.l1, h.l2, h.ne, bthen h.b hb⟩
theorem Two.cp1 (h : Two w w1 g1 g2 L1 L2) (hl : L1.length ≤ 1000000) : CP w1 (some ⟨g1, 0, none⟩) L1 := by
  obtain ⟨q1, q2, h1, h2, h3, h4, h5, h6, h7⟩ := h.c
  exact h1.cp hl
theorem Two.cp2 (h : Two w w1 g1 g2 L1 L2) (hl : L2.length ≤ 1000000) : CP w1 (some ⟨g2, 0, none⟩) L2 := h.swap.cp1 hl
theorem VO.base {w : World} {b b' : Nat} {v : Value} {L : List V} (h : VO w b v L) (hb : b' ≤ b) : VO w b' v L := h.mono hb
theorem Two.of (h : OC w w1 g1 L1) (k : OC w1 w2 g2 L2) : Two w w2 g1 g2 L1 L2 := by
  obtain ⟨q1, h1, h2⟩ := h.c
  obtain ⟨q2, k1, k2⟩ := k.c
  have hl := h1.lt
  have hg := k.g
  have hs := h.b.size
  refine ⟨⟨q1, q2, h1.below k.b, ?_, h2, fun j hj => Nat.le_trans hs (k2 j hj), fun e => ?_, fun e => ?_, fun j hj hk => ?_⟩, h.g, Nat.le_trans hs hg, by omega, bthen h.b k.b⟩
  · obtain ⟨sv, hB, ho, he⟩ := k1
    exact ⟨sv, hB, ho.mono hs, he⟩
  · have := hl.2 _ e; omega
  · have := k2 _ e; omega
  · have := hl.2 _ hj
    have := k2 _ hk
    omega
/-- Trim the first. -/
theorem Two.trim (h : Two w w1 g1 g2 L1 L2) (pa : Option Addr) (pn pc : Nat) (P : List Int) (hP : Lst .u64 w1 pa P) (hpn : P.length = pn) (hl : L1.length ≤ 100000) (hpl : pn ≤ 100000) :
    Calls Try.prog 9 #[.pointer (some ⟨g1, 0, none⟩), .slice pa pn pc] w1 fun e w' => e = .returned (.int .i64 ((L1.length : Int) - ((trimF L1 P).length : Int))) ∧ Two w w' g1 g2 (trimF L1 P) L2 := by
  have hh := h
  obtain ⟨q1, q2, h1, h2, h3, h4, h5, h6, h7⟩ := h.c
  rcases Nat.eq_zero_or_pos L1.length with h0 | h0
  · have : L1 = [] := List.length_eq_zero_iff.1 h0
    subst this
    refine (trim_none (some ⟨g1, 0, none⟩) pa pn pc w1 (h.cp1 (by simp))).mono ?_
    rintro x w2 ⟨rfl, hb⟩
    exact ⟨rfl, hh.below hb⟩
  · refine (trim_any w.heap.size g1 q1 pa pn pc L1 P w1 hP hpn h1 h.b.size hl hpl h0).mono ?_
    rintro x w2 ⟨rfl, hD⟩
    obtain ⟨⟨q', hc', ho'⟩, hk⟩ := id hD
    obtain ⟨hb, q'', hC', hq'⟩ := hD.get h.b h.l1 h3
    have hl2 := h2.lt
    have hC2 : CS w2 w.heap.size g2 q2 L2 := h2.kept hk (fun e => e.elim (fun e => hh.ne e.symm) h5) (fun j hj e => e.elim (fun e => h6 (e ▸ hj)) (fun e => h7 j e hj))
    refine ⟨rfl, ⟨q', q2, hc', hC2, ?_, h4, ?_, h6, ?_⟩, h.l1, h.l2, h.ne, hb⟩
    · rcases ho' with rfl | ho'
      · exact h3
      · exact fun j hj => Nat.le_trans h.b.size (ho' j hj)
    · rcases ho' with rfl | ho'
      · exact h5
      · intro e
        have := ho' _ e
        omega
    · rcases ho' with rfl | ho'
      · exact h7
      · intro j hj hk2
        have := ho' _ hj
        have := hl2.2 _ hk2
        omega
end
theorem run_eql_rec (r q : R) (W : World) : (binOp .eql 30 (.agg #[.int .u8 r.k, .int .u8 r.s, .int .u8 r.u, .int .u8 r.p, .int .u8 r.m, .bool r.g, .int .u32 r.v, .int .u64 r.a, .string r.t]) (.agg #[.int .u8 q.k, .int .u8 q.s, .int .u8 q.u, .int .u8 q.p, .int .u8 q.m, .bool q.g, .int .u32 q.v, .int .u64 q.a, .string q.t])).run Try.prog W = .ok (.bool (eqR r q)) W := by
  rw [run_eql_struct, run_eq_rec r q W]
  rfl
theorem eqR_self (r : R) : eqR r r = true := by simp [eqR]
theorem run_neq_rec (r : R) (W : World) : (binOp .neq 30 (.agg #[.int .u8 r.k, .int .u8 r.s, .int .u8 r.u, .int .u8 r.p, .int .u8 r.m, .bool r.g, .int .u32 r.v, .int .u64 r.a, .string r.t]) (.agg #[.int .u8 r.k, .int .u8 r.s, .int .u8 r.u, .int .u8 r.p, .int .u8 r.m, .bool r.g, .int .u32 r.v, .int .u64 r.a, .string r.t])).run Try.prog W = .ok (.bool false) W := by
  rw [run_neq_struct, run_eq_rec r r W, eqR_self]
  rfl
theorem nine_blk {r : R} {W : World} {g : Nat} (h : Blk W g 30 (#[.int .u8 r.k, .int .u8 r.s, .int .u8 r.u, .int .u8 r.p, .int .u8 r.m, .bool r.g, .int .u32 r.v, .int .u64 r.a, .string r.t])) : (W.cell? ⟨g, 0, none⟩ = some (.int .u8 r.k) ∧ W.cell? ⟨g, 1, none⟩ = some (.int .u8 r.s) ∧ W.cell? ⟨g, 2, none⟩ = some (.int .u8 r.u) ∧ W.cell? ⟨g, 3, none⟩ = some (.int .u8 r.p) ∧ W.cell? ⟨g, 4, none⟩ = some (.int .u8 r.m) ∧ W.cell? ⟨g, 5, none⟩ = some (.bool r.g) ∧ W.cell? ⟨g, 6, none⟩ = some (.int .u32 r.v) ∧ W.cell? ⟨g, 7, none⟩ = some (.int .u64 r.a) ∧ W.cell? ⟨g, 8, none⟩ = some (.string r.t)) :=
  ⟨h.cell 0, h.cell 1, h.cell 2, h.cell 3, h.cell 4, h.cell 5, h.cell 6, h.cell 7, h.cell 8⟩
theorem bdr0 (W : World) : Below W.heap.size W W.drew := ⟨rfl, rfl, rfl, Nat.le_refl _, fun _ _ => rfl⟩
/-- What is seen at a pin of the two. -/
theorem sees_parts (L : List V) (P : List Int) (hP0 : ∀ p ∈ P, 0 ≤ p) (p : Int) (hp : p ∈ P) : ∃ (r : R) (b z : Bool), atF (trimF L P) p = (r, b) ∧ atF L p = (r, b) ∧ decide (p < newestF (trimF L P)) = z ∧ decide (p < newestF L) = z :=
  ⟨(atF L p).1, (atF L p).2, decide (p < newestF L), trim_at L P p (.inl hp), rfl, trim_newest L P p hp (hP0 p hp), rfl⟩
theorem neq_run (z : Bool) (W : World) : (binOp .neq 4 (.bool z) (.bool z)).run Try.prog W = .ok (.bool false) W := by
  cases z <;> kernel_rfl
theorem eql_run (z : Bool) (W : World) : (binOp .eql 4 (.bool z) (.bool z)).run Try.prog W = .ok (.bool true) W := by
  cases z <;> kernel_rfl
theorem eql_rec (r : R) (W : World) : (binOp .eql 30 (.agg #[.int .u8 r.k, .int .u8 r.s, .int .u8 r.u, .int .u8 r.p, .int .u8 r.m, .bool r.g, .int .u32 r.v, .int .u64 r.a, .string r.t]) (.agg #[.int .u8 r.k, .int .u8 r.s, .int .u8 r.u, .int .u8 r.p, .int .u8 r.m, .bool r.g, .int .u32 r.v, .int .u64 r.a, .string r.t])).run Try.prog W = .ok (.bool true) W := by
  rw [run_eql_rec, eqR_self]
set_option maxRecDepth 100000 in
set_option maxHeartbeats 8000000 in
/-- The law behind the cut: of the first m pins. -/
theorem chainSees_at (a : Option Addr) (n c : Nat) (L : List V) (pa : Option Addr) (pn pc m : Nat) (P : List Int) (late : Int) (w : World) (hn : L.length = n) (hL : VL w a L) (hok : ∀ v ∈ L, v.ok)
    (hm : m ≤ 8) (hmn : m ≤ pn) (hnc : pn ≤ pc) (hcm : pc ≤ maxLen) (hPl : P.length = m) (hP : Lst .u64 w pa P) (hP0 : ∀ p ∈ P, 0 ≤ p)
    (hmin : ∀ W, (Builtin.min_ #[3, 3] 3 #[.int .i64 (pn : Int), .int .i64 8]).run Try.prog W = .ok (.int .i64 (m : Int)) W) :
    Calls Try.prog 3 #[.slice a n c, .slice pa pn pc, .int .u64 late] w fun x w' => x = .returned (.bool true) ∧ Below w.heap.size w w' := by
  subst hPl
  obtain ⟨K, hK⟩ : ∃ K, putL [] (L.take 20) = K := ⟨_, rfl⟩
  have hKl : K.length ≤ 20 := by have := putL_len (L.take 20) []; rw [hK] at this; simp at this; omega
  have hTl := trim_le K P
  have HPut := Lib.hid fun (W : World) (hb : Below w.heap.size w W) => hK ▸ putlaw_any a n c L W hn (hL.below hb) hok
  have HTwo := Lib.hid fun (W : World) (g1 g2 : Nat) (h : Two w W g1 g2 K K) => h.trim pa P.length pc P (hP.below h.b) rfl (by omega) (by omega)
  have hm0 : (0 : Int) ≤ (P.length : Int) := Int.natCast_nonneg _
  have hmc : (P.length : Int) ≤ (pc : Int) := by omega
  have hb0 : Below w.heap.size w w := Below.refl _ _
  have HSees := Lib.hid (sees_parts K P hP0)
  have HLate := Lib.hid fun (t : Int) (h : newestF K ≤ t) => trim_at K P t (.inr h)
  have HLive := Lib.hid (trim_live K P)
  have HPP := Lib.hid hP
  have HKl := Lib.hid hKl
  have HTl := Lib.hid hTl
  clear hL hok hK hn hP hP0 hKl hTl
  go_enter Try.func3, Try.ntmps3
  go_wp2_with (first
    | (go_at_call 8; ((with_reducible refine (HPut.out _ hb0).mono ?_); rintro x w1 ⟨g1, rfl, hO1⟩; have HO1 := Lib.hid hO1; have hbA := hO1.b; clear hO1))
    | (go_at_call 8; ((with_reducible refine (HPut.out _ hbA).mono ?_); rintro x w2 ⟨g2, rfl, hO2⟩; have hT0 := Two.of HO1.out hO2; clear hO2))
    | (go_at_call 9; ((with_reducible refine (HTwo.out _ _ _ hT0).mono ?_); rintro x w3 ⟨rfl, hT3⟩; have HT3 := Lib.hid hT3; clear hT3))
    | fail)
  clear HPut HTwo hbA hT0 HO1
  go_loopw [9] (fun i wr => ∃ k : Nat, i = .int .i64 k ∧ k ≤ P.length ∧ Two w wr g1 g2 (trimF K P) K) (fun i _ => P.length - (intOf i).toNat)
  case atStart => exact ⟨0, rfl, Nat.zero_le _, HT3.out⟩
  case round =>
    obtain ⟨k, rfl, hk, hT⟩ := hrel
    by_cases hlt : k < P.length
    · obtain ⟨p, hp⟩ := some_at P hlt
      obtain ⟨pb, poff, rfl, hpc⟩ := (HPP.out.below hT.b).at hp
      have hlti : (k : Int) < (P.length : Int) := by omega
      obtain ⟨r, b, z, e1, e2, e3, e4⟩ := HSees.out p (List.mem_of_getElem? hp)
      have HA1 := Lib.hid fun (W : World) (h : Below wr.heap.size wr W) => at_any (some ⟨g1, 0, none⟩) p (trimF K P) W ((hT.below h).cp1 (by have := HTl.out; have := HKl.out; omega))
      have HA2 := Lib.hid fun (W : World) (h : Below wr.heap.size wr W) => at_any (some ⟨g2, 0, none⟩) p K W ((hT.below h).cp2 (by have := HKl.out; omega))
      have HN1 := Lib.hid fun (W : World) (h : Below wr.heap.size wr W) => newest_any (some ⟨g1, 0, none⟩) (trimF K P) W ((hT.below h).cp1 (by have := HTl.out; have := HKl.out; omega))
      have HN2 := Lib.hid fun (W : World) (h : Below wr.heap.size wr W) => newest_any (some ⟨g2, 0, none⟩) K W ((hT.below h).cp2 (by have := HKl.out; omega))
      rw [e1] at HA1
      rw [e2] at HA2
      have hne : (!decide (p < newestF (trimF K P)) == decide (p < newestF K)) = false := by rw [e3, e4]; cases z <;> rfl
      generalize newestF (trimF K P) = n1 at *
      generalize newestF K = n2 at *
      have hnb := neq_run b
      have hnr := run_neq_rec r
      have HT := Lib.hid hT
      have hbr : Below wr.heap.size wr wr := Below.refl _ _
      have hplt := World.block_lt_of_cell? _ _ hpc
      clear e1 e2 e3 e4 hT
      go_wp2_with (first
        | (go_at_call 10; ((with_reducible refine (HA1.out _ hbr).mono ?_); rintro x W1 ⟨rfl, hb1⟩; have hbB := bthen hb1 (box_b W1 (.cells (#[.int .u8 r.k, .int .u8 r.s, .int .u8 r.u, .int .u8 r.p, .int .u8 r.m, .bool r.g, .int .u32 r.v, .int .u64 r.a, .string r.t]) 30)); have hc1 := bsome hbB hpc hplt; clear hb1))
        | (go_at_call 10; ((with_reducible refine (HA2.out _ hbB).mono ?_); rintro x W2 ⟨rfl, hb2⟩))
        | fail)
      have HX1 := Lib.hid (((Blk.new W1 30 (#[.int .u8 r.k, .int .u8 r.s, .int .u8 r.u, .int .u8 r.p, .int .u8 r.m, .bool r.g, .int .u32 r.v, .int .u64 r.a, .string r.t])).below hb2).alloc (.cells (#[.int .u8 r.k, .int .u8 r.s, .int .u8 r.u, .int .u8 r.p, .int .u8 r.m, .bool r.g, .int .u32 r.v, .int .u64 r.a, .string r.t]) 30))
      have HX2 := Lib.hid (Blk.new W2 30 (#[.int .u8 r.k, .int .u8 r.s, .int .u8 r.u, .int .u8 r.p, .int .u8 r.m, .bool r.g, .int .u32 r.v, .int .u64 r.a, .string r.t]))
      have hbX := bthen (bthen hbB hb2) (box_b W2 (.cells (#[.int .u8 r.k, .int .u8 r.s, .int .u8 r.u, .int .u8 r.p, .int .u8 r.m, .bool r.g, .int .u32 r.v, .int .u64 r.a, .string r.t]) 30))
      clear hb2 hbB hbr hc1 HA1 HA2
      generalize (W2.alloc (.cells (#[.int .u8 r.k, .int .u8 r.s, .int .u8 r.u, .int .u8 r.p, .int .u8 r.m, .bool r.g, .int .u32 r.v, .int .u64 r.a, .string r.t]) 30)) = X at *
      have hS : ∀ Y, Below X.heap.size X Y → Y.cell? ⟨pb, poff + k, none⟩ = some (.int .u64 p) ∧ (Y.cell? ⟨W1.heap.size, 0, none⟩ = some (.int .u8 r.k) ∧ Y.cell? ⟨W1.heap.size, 1, none⟩ = some (.int .u8 r.s) ∧ Y.cell? ⟨W1.heap.size, 2, none⟩ = some (.int .u8 r.u) ∧ Y.cell? ⟨W1.heap.size, 3, none⟩ = some (.int .u8 r.p) ∧ Y.cell? ⟨W1.heap.size, 4, none⟩ = some (.int .u8 r.m) ∧ Y.cell? ⟨W1.heap.size, 5, none⟩ = some (.bool r.g) ∧ Y.cell? ⟨W1.heap.size, 6, none⟩ = some (.int .u32 r.v) ∧ Y.cell? ⟨W1.heap.size, 7, none⟩ = some (.int .u64 r.a) ∧ Y.cell? ⟨W1.heap.size, 8, none⟩ = some (.string r.t)) ∧ (Y.cell? ⟨W2.heap.size, 0, none⟩ = some (.int .u8 r.k) ∧ Y.cell? ⟨W2.heap.size, 1, none⟩ = some (.int .u8 r.s) ∧ Y.cell? ⟨W2.heap.size, 2, none⟩ = some (.int .u8 r.u) ∧ Y.cell? ⟨W2.heap.size, 3, none⟩ = some (.int .u8 r.p) ∧ Y.cell? ⟨W2.heap.size, 4, none⟩ = some (.int .u8 r.m) ∧ Y.cell? ⟨W2.heap.size, 5, none⟩ = some (.bool r.g) ∧ Y.cell? ⟨W2.heap.size, 6, none⟩ = some (.int .u32 r.v) ∧ Y.cell? ⟨W2.heap.size, 7, none⟩ = some (.int .u64 r.a) ∧ Y.cell? ⟨W2.heap.size, 8, none⟩ = some (.string r.t)) := fun Y hb => ⟨bsome (bthen hbX hb) hpc hplt, nine_blk (HX1.out.below hb), nine_blk (HX2.out.below hb)⟩
      have hbx : Below X.heap.size X X.drew := bdr0 X
      obtain ⟨p0, ⟨c0, c1, c2, c3, c4, c5, c6, c7, c8⟩, ⟨d0, d1, d2, d3, d4, d5, d6, d7, d8⟩⟩ := hS X.drew hbx
      have HS2 := Lib.hid hS
      have HBX := Lib.hid hbX
      clear hS HX1 HX2 hbX
      go_region_held3 (fun w' => Below X.heap.size X w' ∧ w'.cell? ⟨pb, poff + k, none⟩ = some (.int .u64 p) ∧ (w'.cell? ⟨W1.heap.size, 0, none⟩ = some (.int .u8 r.k) ∧ w'.cell? ⟨W1.heap.size, 1, none⟩ = some (.int .u8 r.s) ∧ w'.cell? ⟨W1.heap.size, 2, none⟩ = some (.int .u8 r.u) ∧ w'.cell? ⟨W1.heap.size, 3, none⟩ = some (.int .u8 r.p) ∧ w'.cell? ⟨W1.heap.size, 4, none⟩ = some (.int .u8 r.m) ∧ w'.cell? ⟨W1.heap.size, 5, none⟩ = some (.bool r.g) ∧ w'.cell? ⟨W1.heap.size, 6, none⟩ = some (.int .u32 r.v) ∧ w'.cell? ⟨W1.heap.size, 7, none⟩ = some (.int .u64 r.a) ∧ w'.cell? ⟨W1.heap.size, 8, none⟩ = some (.string r.t)) ∧ (w'.cell? ⟨W2.heap.size, 0, none⟩ = some (.int .u8 r.k) ∧ w'.cell? ⟨W2.heap.size, 1, none⟩ = some (.int .u8 r.s) ∧ w'.cell? ⟨W2.heap.size, 2, none⟩ = some (.int .u8 r.u) ∧ w'.cell? ⟨W2.heap.size, 3, none⟩ = some (.int .u8 r.p) ∧ w'.cell? ⟨W2.heap.size, 4, none⟩ = some (.int .u8 r.m) ∧ w'.cell? ⟨W2.heap.size, 5, none⟩ = some (.bool r.g) ∧ w'.cell? ⟨W2.heap.size, 6, none⟩ = some (.int .u32 r.v) ∧ w'.cell? ⟨W2.heap.size, 7, none⟩ = some (.int .u64 r.a) ∧ w'.cell? ⟨W2.heap.size, 8, none⟩ = some (.string r.t)))
        (first | (refine ⟨?_, ?_, ⟨?_, ?_, ?_, ?_, ?_, ?_, ?_, ?_, ?_⟩, ⟨?_, ?_, ?_, ?_, ?_, ?_, ?_, ?_, ?_⟩⟩ <;> with_reducible assumption) | fail)
        (first
          | (go_at_call 11; ((with_reducible refine (HN1.out _ (bthen HBX.out (by with_reducible assumption))).mono ?_); rintro x W3 ⟨rfl, hb3⟩; have hbY := bthen hbx hb3; clear hb3; obtain ⟨p1, ⟨e0, e1, e2, e3, e4, e5, e6, e7, e8⟩, ⟨f0, f1, f2, f3, f4, f5, f6, f7, f8⟩⟩ := HS2.out _ hbY))
          | (go_at_call 11; ((with_reducible refine (HN2.out _ (bthen HBX.out (by with_reducible assumption))).mono ?_); rintro x W4 ⟨rfl, hb4⟩; have hbZ := bthen hbY hb4; clear hb4; obtain ⟨p2, ⟨g0, g1', g2', g3, g4, g5, g6, g7, g8⟩, ⟨h0, h1, h2, h3, h4, h5, h6, h7, h8⟩⟩ := HS2.out _ hbZ))
          | fail)
      all_goals
        have hbE := bthen HBX.out hbZ
        go_wp2_with fail
        refine ⟨⟨k + 1, by go_num, by omega, HT.out.below hbE⟩, ?_⟩
        simp [intOf]
        omega
    · have hke : k = P.length := by omega
      subst hke
      have HT := Lib.hid hT
      have hlv := HLive.out
      have hnb := eql_run (liveF K)
      have HN2 := Lib.hid fun (W : World) (h : Below wr.heap.size wr W) => (newest_any (some ⟨g2, 0, none⟩) K W ((hT.below h).cp2 (by have := HKl.out; omega))).mono fun x W' hx => (⟨hx.1, bthen h hx.2⟩ : _ ∧ Below wr.heap.size wr W')
      have HV1 := Lib.hid fun (W : World) (h : Below wr.heap.size wr W) => (live_any (some ⟨g1, 0, none⟩) (trimF K P) W ((hT.below h).cp1 (by have := HTl.out; have := HKl.out; omega))).mono fun x W' hx => (⟨hx.1, bthen h hx.2⟩ : _ ∧ Below wr.heap.size wr W')
      have HV2 := Lib.hid fun (W : World) (h : Below wr.heap.size wr W) => (live_any (some ⟨g2, 0, none⟩) K W ((hT.below h).cp2 (by have := HKl.out; omega))).mono fun x W' hx => (⟨hx.1, bthen h hx.2⟩ : _ ∧ Below wr.heap.size wr W')
      have HA1 := Lib.hid fun (t : Int) (W : World) (h : Below wr.heap.size wr W) => (at_any (some ⟨g1, 0, none⟩) t (trimF K P) W ((hT.below h).cp1 (by have := HTl.out; have := HKl.out; omega))).mono fun x W' hx => (⟨hx.1, bthen h hx.2⟩ : _ ∧ Below wr.heap.size wr W')
      have HA2 := Lib.hid fun (t : Int) (W : World) (h : Below wr.heap.size wr W) => (at_any (some ⟨g2, 0, none⟩) t K W ((hT.below h).cp2 (by have := HKl.out; omega))).mono fun x W' hx => (⟨hx.1, hx.2, bthen h hx.2⟩ : _ ∧ Below W.heap.size W W' ∧ Below wr.heap.size wr W')
      have HK := Lib.hid fun (W : World) (h : Below wr.heap.size wr W) => (known_any W).mono fun x W' hx => (⟨hx.1, hx.2, bthen h hx.2⟩ : _ ∧ Below W.heap.size W W' ∧ Below wr.heap.size wr W')
      rw [hlv] at HV1
      have hbr : Below wr.heap.size wr wr := Below.refl _ _
      clear hT hlv HLive
      rcases Int.lt_or_le late (newestF K) with hlt2 | hle2
      · have ht := HLate.out (newestF K) (Int.le_refl _)
        have HA1 := Lib.hid (HA1.out (newestF K))
        have HA2 := Lib.hid (HA2.out (newestF K))
        rw [ht] at HA1
        clear ht HLate HSees
        generalize (atF K (newestF K)).1 = r at *
        generalize (atF K (newestF K)).2 = b at *
        generalize newestF K = nk at *
        generalize liveF K = lv at *
        have hnc := eql_run b
        have hnr := eql_rec r
        go_wp2_with (first
          | (go_at_call 11; ((with_reducible refine (HN2.out _ (by with_reducible assumption)).mono ?_); rintro x W1 ⟨rfl, hb1⟩))
          | (go_at_call 10; ((with_reducible refine (HA1.out _ (by with_reducible assumption)).mono ?_); rintro x W3 ⟨rfl, hb3⟩; have hbB := bthen hb3 (box_b W3 (.cells (#[.int .u8 r.k, .int .u8 r.s, .int .u8 r.u, .int .u8 r.p, .int .u8 r.m, .bool r.g, .int .u32 r.v, .int .u64 r.a, .string r.t]) 30)); clear hb3))
          | (go_at_call 10; ((with_reducible refine (HA2.out _ (by with_reducible assumption)).mono ?_); rintro x W4 ⟨rfl, hb4, hb4'⟩; have hbX := bthen hb4' (box_b W4 (.cells (#[.int .u8 r.k, .int .u8 r.s, .int .u8 r.u, .int .u8 r.p, .int .u8 r.m, .bool r.g, .int .u32 r.v, .int .u64 r.a, .string r.t]) 30)); have HX1 := Lib.hid (((Blk.new W3 30 (#[.int .u8 r.k, .int .u8 r.s, .int .u8 r.u, .int .u8 r.p, .int .u8 r.m, .bool r.g, .int .u32 r.v, .int .u64 r.a, .string r.t])).below hb4).alloc (.cells (#[.int .u8 r.k, .int .u8 r.s, .int .u8 r.u, .int .u8 r.p, .int .u8 r.m, .bool r.g, .int .u32 r.v, .int .u64 r.a, .string r.t]) 30)); have HX2 := Lib.hid (Blk.new W4 30 (#[.int .u8 r.k, .int .u8 r.s, .int .u8 r.u, .int .u8 r.p, .int .u8 r.m, .bool r.g, .int .u32 r.v, .int .u64 r.a, .string r.t])); clear hb4 hb4'))
          | (go_at_call 12; ((with_reducible refine (HK.out _ (by with_reducible assumption)).mono ?_); rintro x W5 ⟨rfl, hb5, hb5'⟩; obtain ⟨e0, e1, e2, e3, e4, e5, e6, e7, e8⟩ := nine_blk (HX1.out.below hb5); obtain ⟨f0, f1, f2, f3, f4, f5, f6, f7, f8⟩ := nine_blk (HX2.out.below hb5); clear hb5))
          | (go_at_call 13; ((with_reducible refine (HV1.out _ (by with_reducible assumption)).mono ?_); rintro x W6 ⟨rfl, hb6⟩))
          | (go_at_call 13; ((with_reducible refine (HV2.out _ (by with_reducible assumption)).mono ?_); rintro x W7 ⟨rfl, hb7⟩))
          | fail)
        go_ret
        exact ⟨rfl, bthen HT.out.b hb7⟩
      · have ht := HLate.out late hle2
        have HA1 := Lib.hid (HA1.out late)
        have HA2 := Lib.hid (HA2.out late)
        rw [ht] at HA1
        have hnl : ¬ (late < newestF K) := by omega
        clear ht HLate HSees
        generalize (atF K late).1 = r at *
        generalize (atF K late).2 = b at *
        generalize newestF K = nk at *
        generalize liveF K = lv at *
        have hnc := eql_run b
        have hnr := eql_rec r
        go_wp2_with (first
          | (go_at_call 11; ((with_reducible refine (HN2.out _ (by with_reducible assumption)).mono ?_); rintro x W1 ⟨rfl, hb1⟩))
          | (go_at_call 10; ((with_reducible refine (HA1.out _ (by with_reducible assumption)).mono ?_); rintro x W3 ⟨rfl, hb3⟩; have hbB := bthen hb3 (box_b W3 (.cells (#[.int .u8 r.k, .int .u8 r.s, .int .u8 r.u, .int .u8 r.p, .int .u8 r.m, .bool r.g, .int .u32 r.v, .int .u64 r.a, .string r.t]) 30)); clear hb3))
          | (go_at_call 10; ((with_reducible refine (HA2.out _ (by with_reducible assumption)).mono ?_); rintro x W4 ⟨rfl, hb4, hb4'⟩; have hbX := bthen hb4' (box_b W4 (.cells (#[.int .u8 r.k, .int .u8 r.s, .int .u8 r.u, .int .u8 r.p, .int .u8 r.m, .bool r.g, .int .u32 r.v, .int .u64 r.a, .string r.t]) 30)); have HX1 := Lib.hid (((Blk.new W3 30 (#[.int .u8 r.k, .int .u8 r.s, .int .u8 r.u, .int .u8 r.p, .int .u8 r.m, .bool r.g, .int .u32 r.v, .int .u64 r.a, .string r.t])).below hb4).alloc (.cells (#[.int .u8 r.k, .int .u8 r.s, .int .u8 r.u, .int .u8 r.p, .int .u8 r.m, .bool r.g, .int .u32 r.v, .int .u64 r.a, .string r.t]) 30)); have HX2 := Lib.hid (Blk.new W4 30 (#[.int .u8 r.k, .int .u8 r.s, .int .u8 r.u, .int .u8 r.p, .int .u8 r.m, .bool r.g, .int .u32 r.v, .int .u64 r.a, .string r.t])); clear hb4 hb4'))
          | (go_at_call 12; ((with_reducible refine (HK.out _ (by with_reducible assumption)).mono ?_); rintro x W5 ⟨rfl, hb5, hb5'⟩; obtain ⟨e0, e1, e2, e3, e4, e5, e6, e7, e8⟩ := nine_blk (HX1.out.below hb5); obtain ⟨f0, f1, f2, f3, f4, f5, f6, f7, f8⟩ := nine_blk (HX2.out.below hb5); clear hb5))
          | (go_at_call 13; ((with_reducible refine (HV1.out _ (by with_reducible assumption)).mono ?_); rintro x W6 ⟨rfl, hb6⟩))
          | (go_at_call 13; ((with_reducible refine (HV2.out _ (by with_reducible assumption)).mono ?_); rintro x W7 ⟨rfl, hb7⟩))
          | fail)
        go_ret
        exact ⟨rfl, bthen HT.out.b hb7⟩
/-- Of what came in the first few pins. -/
theorem pins_of {pa : Option Addr} {pn : Nat} {Z : Nat → Int} {w : World} (hI : Ints .u64 w pa pn Z) (hZ : ∀ i, i < pn → 0 ≤ Z i ∧ Z i ≤ 18446744073709551615) :
    ∃ P : List Int, P.length ≤ 8 ∧ P.length ≤ pn ∧ Lst .u64 w pa P ∧ (∀ p ∈ P, 0 ≤ p) ∧ ∀ W, (Builtin.min_ #[3, 3] 3 #[.int .i64 (pn : Int), .int .i64 8]).run Try.prog W = .ok (.int .i64 (P.length : Int)) W := by
  have hb : ∀ n, n ≤ pn → ∀ p ∈ listOf Z n, 0 ≤ p := fun n hn p hp => by
    simp [listOf] at hp
    obtain ⟨i, hi, rfl⟩ := hp
    exact (hZ i (by omega)).1
  by_cases h : (8 : Int) < (pn : Int)
  · exact ⟨listOf Z 8, by rw [listOf_length]; exact Nat.le_refl _, by rw [listOf_length]; omega, Lst.of_ints (hI.mono (by omega)), hb 8 (by omega), fun W => by rw [run_min_int2, if_pos h, listOf_length]; rfl⟩
  · exact ⟨listOf Z pn, by rw [listOf_length]; omega, by rw [listOf_length]; exact Nat.le_refl _, Lst.of_ints hI, hb pn (Nat.le_refl _), fun W => by rw [run_min_int2, if_neg h, listOf_length]⟩
theorem chainSees_any (a : Option Addr) (n c : Nat) (L : List V) (pa : Option Addr) (pn pc : Nat) (Z : Nat → Int) (late : Int) (w : World) (hn : L.length = n) (hL : VL w a L) (hok : ∀ v ∈ L, v.ok)
    (hnc : pn ≤ pc) (hcm : pc ≤ maxLen) (hI : Ints .u64 w pa pn Z) (hZ : ∀ i, i < pn → 0 ≤ Z i ∧ Z i ≤ 18446744073709551615) :
    Calls Try.prog 3 #[.slice a n c, .slice pa pn pc, .int .u64 late] w fun x w' => x = .returned (.bool true) ∧ Below w.heap.size w w' := by
  obtain ⟨P, h8, hpn, hP, hP0, hmin⟩ := pins_of hI hZ
  exact chainSees_at a n c L pa pn pc P.length P late w hn hL hok h8 hpn hnc hcm rfl hP hP0 hmin
end Go.Proofs.Ytpbdgfgjlccapaa.cw
