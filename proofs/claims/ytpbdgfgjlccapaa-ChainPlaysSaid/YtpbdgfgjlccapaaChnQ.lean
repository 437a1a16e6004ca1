/-
  The walks of layer 12's document: Put.
-/
import Derived.Test.YtpbdgfgjlccapaaChnO
import Derived.Deep.QuietTactic
import Derived.BigQuiet
namespace Go.Proofs.Ytpbdgfgjlccapaa.cw
open Go.RowKit Go.Proofs.Ytpbdgfgjlccapaa.ba Go.Proofs.Ytpbdgfgjlccapaa.rp Go.Proofs.Ytpbdgfgjlccapaa.rw Go.Proofs.Ytpbdgfgjlccapaa.cp
set_option maxRecDepth 8000
set_option linter.unusedVariables false
attribute [local go_sem ↓] Go.wp_at_zero Go.wp_at_succ

set_option maxHeartbeats 1000000 in
theorem drun_eq (r q : R) (W : World) : (Op.equalIn 10000 51 (.agg #[.int .i64 r.k, .int .i64 r.s, .int .i64 r.u, .int .i64 r.p, .int .i64 r.m, .bool r.g, .int .u64 r.v, .int .u64 r.a, .string r.t]) (.agg #[.int .i64 q.k, .int .i64 q.s, .int .i64 q.u, .int .i64 q.p, .int .i64 q.m, .bool q.g, .int .u64 q.v, .int .u64 q.a, .string q.t])).run Try.prog W = .ok (eqR r q) W := by
  have hu : Try.prog.underlying 51 = some (.struct (Try.prog.fieldsOf 51)) := by kernel_rfl
  have hs : Try.prog.stoodInHeld 51 = false := by kernel_rfl
  rw [run_equalIn_agg W 9999 _ _ _ hu hs]
  simp [go_sem]
  unfold eqR
  repeat' split
  all_goals simp_all
theorem dneq_zero (r : R) (W : World) : (binOp .neq 51 (.agg #[.int .i64 r.k, .int .i64 r.s, .int .i64 r.u, .int .i64 r.p, .int .i64 r.m, .bool r.g, .int .u64 r.v, .int .u64 r.a, .string r.t]) (.agg #[.int .i64 0, .int .i64 0, .int .i64 0, .int .i64 0, .int .i64 0, .bool false, .int .u64 0, .int .u64 0, .string ⟨#[]⟩])).run Try.prog W = .ok (.bool (!(eqR r zeroR))) W := by
  rw [run_neq_struct]
  have := drun_eq r zeroR W
  unfold zeroR at this
  simp only at this
  rw [this]
  rfl
theorem dneq_self (r : R) (W : World) : (binOp .neq 51 (.agg #[.int .i64 r.k, .int .i64 r.s, .int .i64 r.u, .int .i64 r.p, .int .i64 r.m, .bool r.g, .int .u64 r.v, .int .u64 r.a, .string r.t]) (.agg #[.int .i64 r.k, .int .i64 r.s, .int .i64 r.u, .int .i64 r.p, .int .i64 r.m, .bool r.g, .int .u64 r.v, .int .u64 r.a, .string r.t])).run Try.prog W = .ok (.bool false) W := by
  rw [run_neq_struct, drun_eq r r W, eqR_self]
  rfl
theorem puts_one (L : List V) (v : V) : puts L [v] = if put1 L v ≠ 0 then (L, 0, put1 L v) else (L ++ [v], 1, 0) := by
  show (if put1 L v ≠ 0 then (L, 0, put1 L v) else ((puts (L ++ [v]) []).1, (puts (L ++ [v]) []).2.1 + 1, (puts (L ++ [v]) []).2.2)) = _
  rfl
/-- What Put leaves, and its error. -/
def DPut (w w' : World) (L : List V) (v : V) (x : Ending) : Prop :=
  ∃ a c, x = .returned (.tuple #[.slice a (puts L [v]).1.length c, .int .i64 (put1 L v)]) ∧ DL w' a (puts L [v]).1 ∧ Below w.heap.size w w'
theorem DPut.err {w w' : World} {L : List V} {v : V} {a : Option Addr} {c : Nat} {e : Int} (he : put1 L v = e) (h0 : e ≠ 0) (hL : DL w a L) (hb : Below w.heap.size w w') : DPut w w' L v (.returned (.tuple #[.slice a L.length c, .int .i64 e])) := by
  have hp : (puts L [v]).1 = L := by rw [puts_one, he, if_pos h0]
  exact ⟨a, c, by rw [hp, he], by rw [hp]; exact hL.below hb, hb⟩
theorem DPut.ok {w w' : World} {L : List V} {v : V} {a : Option Addr} {c n : Nat} (he : put1 L v = 0) (hL : DL w' a (L ++ [v])) (hn : (L ++ [v]).length = n) (hb : Below w.heap.size w w') : DPut w w' L v (.returned (.tuple #[.slice a n c, .int .i64 0])) := by
  have hp : (puts L [v]).1 = L ++ [v] := by rw [puts_one, if_neg (by simp [he])]
  subst hn
  exact ⟨a, c, by rw [hp, he], by rw [hp]; exact hL, hb⟩
theorem bdrN {B : Nat} {w w' : World} (h : Below B w w') (n : Nat) : Below B w (w'.drewN n) := bdrew h n
theorem dhead {w Y : World} {v : V} (hb0 : Below (w.alloc (.cells (#[.int .u64 v.a, .bool v.d, .int .i64 v.r.k, .int .i64 v.r.s, .int .i64 v.r.u, .int .i64 v.r.p, .int .i64 v.r.m, .bool v.r.g, .int .u64 v.r.v, .int .u64 v.r.a, .string v.r.t]) 53)).heap.size (w.alloc (.cells (#[.int .u64 v.a, .bool v.d, .int .i64 v.r.k, .int .i64 v.r.s, .int .i64 v.r.u, .int .i64 v.r.p, .int .i64 v.r.m, .bool v.r.g, .int .u64 v.r.v, .int .u64 v.r.a, .string v.r.t]) 53)) Y) : (Y.cell? ⟨w.heap.size, 0, none⟩ = some (.int .u64 v.a) ∧ Y.cell? ⟨w.heap.size, 1, none⟩ = some (.bool v.d) ∧ Y.cell? ⟨w.heap.size, 2, none⟩ = some (.int .i64 v.r.k) ∧ Y.cell? ⟨w.heap.size, 3, none⟩ = some (.int .i64 v.r.s) ∧ Y.cell? ⟨w.heap.size, 4, none⟩ = some (.int .i64 v.r.u) ∧ Y.cell? ⟨w.heap.size, 5, none⟩ = some (.int .i64 v.r.p) ∧ Y.cell? ⟨w.heap.size, 6, none⟩ = some (.int .i64 v.r.m) ∧ Y.cell? ⟨w.heap.size, 7, none⟩ = some (.bool v.r.g) ∧ Y.cell? ⟨w.heap.size, 8, none⟩ = some (.int .u64 v.r.v) ∧ Y.cell? ⟨w.heap.size, 9, none⟩ = some (.int .u64 v.r.a) ∧ Y.cell? ⟨w.heap.size, 10, none⟩ = some (.string v.r.t)) ∧ Below w.heap.size w Y :=
  ⟨delev_blk ((Blk.new w _ _).below hb0), bthen (box_b w _) hb0⟩
theorem DO.drew {w : World} {base : Nat} {v : Value} {L : List V} (h : DO w base v L) : DO w.drew base v L := h
theorem dl_second (w : World) (o : Obj) (v : V) : DL ((w.alloc o).alloc (.cells (#[.int .u64 v.a, .bool v.d, .int .i64 v.r.k, .int .i64 v.r.s, .int .i64 v.r.u, .int .i64 v.r.p, .int .i64 v.r.m, .bool v.r.g, .int .u64 v.r.v, .int .u64 v.r.a, .string v.r.t]) 53)) (some ⟨w.heap.size + 1, 0, none⟩) [v] := by
  have := DL.box (w.alloc o) v
  rwa [World.size_alloc] at this
theorem made_second (w : World) (o : Obj) : DO ((w.alloc o).alloc (.cells #[] 53)) w.heap.size (.slice (some ⟨w.heap.size + 1, 0, none⟩) 0 0) [] := by
  have := DO.made (w.alloc o) w.heap.size (by simp)
  rwa [World.size_alloc] at this
theorem delev_below {g : Nat} {Y Z : World} {v : V} (h : (Y.cell? ⟨g, 0, none⟩ = some (.int .u64 v.a) ∧ Y.cell? ⟨g, 1, none⟩ = some (.bool v.d) ∧ Y.cell? ⟨g, 2, none⟩ = some (.int .i64 v.r.k) ∧ Y.cell? ⟨g, 3, none⟩ = some (.int .i64 v.r.s) ∧ Y.cell? ⟨g, 4, none⟩ = some (.int .i64 v.r.u) ∧ Y.cell? ⟨g, 5, none⟩ = some (.int .i64 v.r.p) ∧ Y.cell? ⟨g, 6, none⟩ = some (.int .i64 v.r.m) ∧ Y.cell? ⟨g, 7, none⟩ = some (.bool v.r.g) ∧ Y.cell? ⟨g, 8, none⟩ = some (.int .u64 v.r.v) ∧ Y.cell? ⟨g, 9, none⟩ = some (.int .u64 v.r.a) ∧ Y.cell? ⟨g, 10, none⟩ = some (.string v.r.t))) (hb : Below Y.heap.size Y Z) : (Z.cell? ⟨g, 0, none⟩ = some (.int .u64 v.a) ∧ Z.cell? ⟨g, 1, none⟩ = some (.bool v.d) ∧ Z.cell? ⟨g, 2, none⟩ = some (.int .i64 v.r.k) ∧ Z.cell? ⟨g, 3, none⟩ = some (.int .i64 v.r.s) ∧ Z.cell? ⟨g, 4, none⟩ = some (.int .i64 v.r.u) ∧ Z.cell? ⟨g, 5, none⟩ = some (.int .i64 v.r.p) ∧ Z.cell? ⟨g, 6, none⟩ = some (.int .i64 v.r.m) ∧ Z.cell? ⟨g, 7, none⟩ = some (.bool v.r.g) ∧ Z.cell? ⟨g, 8, none⟩ = some (.int .u64 v.r.v) ∧ Z.cell? ⟨g, 9, none⟩ = some (.int .u64 v.r.a) ∧ Z.cell? ⟨g, 10, none⟩ = some (.string v.r.t)) := by
  obtain ⟨c0, c1, c2, c3, c4, c5, c6, c7, c8, c9, c10⟩ := h
  have hl : g < Y.heap.size := World.block_lt_of_cell? _ _ c0
  exact ⟨bsome hb c0 hl, bsome hb c1 hl, bsome hb c2 hl, bsome hb c3 hl, bsome hb c4 hl, bsome hb c5 hl, bsome hb c6 hl, bsome hb c7 hl, bsome hb c8 hl, bsome hb c9 hl, bsome hb c10 hl⟩
set_option maxRecDepth 100000 in
set_option maxHeartbeats 8000000 in
theorem dput_any (a : Option Addr) (n c : Nat) (L : List V) (v : V) (w : World) (hn : L.length = n) (hl : n ≤ 100000) (hL : DL w a L) (hv : v.ok) :
    Calls Try.prog 17 #[.slice a n c, .agg #[.int .u64 v.a, .bool v.d, .int .i64 v.r.k, .int .i64 v.r.s, .int .i64 v.r.u, .int .i64 v.r.p, .int .i64 v.r.m, .bool v.r.g, .int .u64 v.r.v, .int .u64 v.r.a, .string v.r.t]] w fun e w' => DPut w w' L v e := by
  subst hn
  obtain ⟨va, vd, r⟩ := v
  have hnz := dneq_zero r
  have HCk := Lib.hid fun (W : World) => rcheck_any r W hv.r
  have hH := fun (Y : World) (h : Below (w.alloc (.cells (#[.int .u64 (⟨va, vd, r⟩ : V).a, .bool (⟨va, vd, r⟩ : V).d, .int .i64 (⟨va, vd, r⟩ : V).r.k, .int .i64 (⟨va, vd, r⟩ : V).r.s, .int .i64 (⟨va, vd, r⟩ : V).r.u, .int .i64 (⟨va, vd, r⟩ : V).r.p, .int .i64 (⟨va, vd, r⟩ : V).r.m, .bool (⟨va, vd, r⟩ : V).r.g, .int .u64 (⟨va, vd, r⟩ : V).r.v, .int .u64 (⟨va, vd, r⟩ : V).r.a, .string (⟨va, vd, r⟩ : V).r.t]) 53)).heap.size (w.alloc (.cells (#[.int .u64 (⟨va, vd, r⟩ : V).a, .bool (⟨va, vd, r⟩ : V).d, .int .i64 (⟨va, vd, r⟩ : V).r.k, .int .i64 (⟨va, vd, r⟩ : V).r.s, .int .i64 (⟨va, vd, r⟩ : V).r.u, .int .i64 (⟨va, vd, r⟩ : V).r.p, .int .i64 (⟨va, vd, r⟩ : V).r.m, .bool (⟨va, vd, r⟩ : V).r.g, .int .u64 (⟨va, vd, r⟩ : V).r.v, .int .u64 (⟨va, vd, r⟩ : V).r.a, .string (⟨va, vd, r⟩ : V).r.t]) 53)) Y) => dhead (v := ⟨va, vd, r⟩) h
  have hBX := DL.box
  have HN := Lib.hid fun (Y : World) (h : Below w.heap.size w Y) (q : Nat) => (dnewest_any a L.length c L (Y.drewN q) rfl (by omega) ((hL.below h).drewN q)).mono fun x w' hx => (⟨hx.1, hx.2.symm⟩ : x = _ ∧ w' = Y.drewN q)
  have hp1 : put1 L ⟨va, vd, r⟩ = if wrongF ⟨va, vd, r⟩ ≠ 0 then wrongF ⟨va, vd, r⟩ else if va ≤ newestF L then 21 else 0 := rfl
  have hw1 : wrongF ⟨va, vd, r⟩ = if vd = false then checkF r else if eqR r zeroR = true then 0 else 3 := rfl
  have HP1 := Lib.hid hp1
  have HW := Lib.hid hw1
  have hbx := box_b w (.cells (#[.int .u64 (⟨va, vd, r⟩ : V).a, .bool (⟨va, vd, r⟩ : V).d, .int .i64 (⟨va, vd, r⟩ : V).r.k, .int .i64 (⟨va, vd, r⟩ : V).r.s, .int .i64 (⟨va, vd, r⟩ : V).r.u, .int .i64 (⟨va, vd, r⟩ : V).r.p, .int .i64 (⟨va, vd, r⟩ : V).r.m, .bool (⟨va, vd, r⟩ : V).r.g, .int .u64 (⟨va, vd, r⟩ : V).r.v, .int .u64 (⟨va, vd, r⟩ : V).r.a, .string (⟨va, vd, r⟩ : V).r.t]) 53)
  have hE := fun (e : Int) (he : put1 L ⟨va, vd, r⟩ = e) (h0 : e ≠ 0) (w' : World) (hb : Below w.heap.size w w') => DPut.err (c := c) he h0 hL hb
  simp only at hH hbx hE ⊢
  have HH := Lib.hid hH
  have HBX := Lib.hid hbx
  have HE := Lib.hid hE
  have HL := Lib.hid hL
  have Hl := Lib.hid hl
  have HV := Lib.hid hv
  clear hL hv hl hH hbx hE hBX hp1 hw1
  cases vd with
  | true =>
    cases hq : eqR r zeroR with
    | false =>
      rw [hq] at hnz
      have hp : put1 L ⟨va, true, r⟩ = 3 := by rw [HP1.out, HW.out, hq]; rfl
      have HF := Lib.hid (HE.out 3 hp (by decide))
      clear hp hq
      go_enter Try.func17, Try.ntmps17
      go_wp2_with fail
      refine bodyPost_ret (results_tmp2 rfl _ _ _) rfl ?_
      exact HF.out _ HBX.out
    | true =>
      rw [hq] at hnz
      have hw0 : wrongF ⟨va, true, r⟩ = 0 := by rw [HW.out, hq]; rfl
      have HX := Lib.hid (HH.out _ (Below.refl _ _))
      rcases Int.lt_or_le (newestF L) va with hnew | hold
      · have hnw : ¬ va ≤ newestF L := by omega
        have hp : put1 L ⟨va, true, r⟩ = 0 := by rw [HP1.out, hw0, if_neg (by decide), if_neg hnw]
        obtain ⟨⟨c0, c1, c2, c3, c4, c5, c6, c7, c8, c9, c10⟩, _⟩ := HX.out
        clear hq hw0
        go_enter Try.func17, Try.ntmps17
        go_wp2_with fail
        go_quiet (exact Calls.quiet_of_same (HN.out _ HBX.out _))
        go_wp2_with fail
        obtain ⟨hy1, hy2⟩ := HH.out _ (bdrN (Below.refl _ _) nq)
        generalize ((w.alloc (.cells (#[.int .u64 va, .bool true, .int .i64 r.k, .int .i64 r.s, .int .i64 r.u, .int .i64 r.p, .int .i64 r.m, .bool r.g, .int .u64 r.v, .int .u64 r.a, .string r.t]) 53)).drewN nq) = Y at *
        obtain ⟨_, hBy⟩ : True ∧ Below w.heap.size w Y := ⟨trivial, hy2⟩
        have hS : ∀ Z, Below Y.heap.size Y Z → (Z.cell? ⟨w.heap.size, 0, none⟩ = some (.int .u64 va) ∧ Z.cell? ⟨w.heap.size, 1, none⟩ = some (.bool true) ∧ Z.cell? ⟨w.heap.size, 2, none⟩ = some (.int .i64 r.k) ∧ Z.cell? ⟨w.heap.size, 3, none⟩ = some (.int .i64 r.s) ∧ Z.cell? ⟨w.heap.size, 4, none⟩ = some (.int .i64 r.u) ∧ Z.cell? ⟨w.heap.size, 5, none⟩ = some (.int .i64 r.p) ∧ Z.cell? ⟨w.heap.size, 6, none⟩ = some (.int .i64 r.m) ∧ Z.cell? ⟨w.heap.size, 7, none⟩ = some (.bool r.g) ∧ Z.cell? ⟨w.heap.size, 8, none⟩ = some (.int .u64 r.v) ∧ Z.cell? ⟨w.heap.size, 9, none⟩ = some (.int .u64 r.a) ∧ Z.cell? ⟨w.heap.size, 10, none⟩ = some (.string r.t)) := fun Z hb => delev_below (v := ⟨va, true, r⟩) hy1 hb
        obtain ⟨k0, k1, k2, k3, k4, k5, k6, k7, k8, k9, k10⟩ := hS Y.drew (bdr0 Y)
        have HS2 := Lib.hid hS
        have HLY := Lib.hid fun (Z : World) (h : Below Y.heap.size Y Z) => HL.out.below (bthen hBy h)
        have HBY := Lib.hid hBy
        have HXB := Lib.hid fun (Z : World) => DL.box Z ⟨va, true, r⟩
        have hxc : DL ((Y.alloc (.cells #[] 53)).alloc (.cells (#[.int .u64 va, .bool true, .int .i64 r.k, .int .i64 r.s, .int .i64 r.u, .int .i64 r.p, .int .i64 r.m, .bool r.g, .int .u64 r.v, .int .u64 r.a, .string r.t]) 53)).drew (some ⟨Y.heap.size + 1, 0, none⟩) [⟨va, true, r⟩] := (dl_second Y _ ⟨va, true, r⟩).drew
        have hxd : DL ((Y.alloc (.cells (#[.int .u64 va, .bool true, .int .i64 r.k, .int .i64 r.s, .int .i64 r.u, .int .i64 r.p, .int .i64 r.m, .bool r.g, .int .u64 r.v, .int .u64 r.a, .string r.t]) 53)).alloc (.cells #[] 53)).drew (some ⟨Y.heap.size, 0, none⟩) [⟨va, true, r⟩] := ((DL.box Y ⟨va, true, r⟩).below (box_b _ _)).drew
        have HXC := Lib.hid hxc
        have HXD := Lib.hid hxd
        clear hxc hxd
        have HM2 := Lib.hid fun (o : Obj) => (made_second Y o).drew
        have HM := Lib.hid (DO.made Y Y.heap.size (Nat.le_refl _)).drew
        have HMo := Lib.hid fun (o : Obj) => (World.ownsRow.alloc (DO.made Y Y.heap.size (Nat.le_refl _)) o : DO ((Y.alloc (.cells #[] 53)).alloc o) Y.heap.size _ []).drew
        have hlen : (L ++ [(⟨va, true, r⟩ : V)]).length = L.length + 1 := by simp
        have HFin := Lib.hid fun (w' : World) (a' : Option Addr) (c' : Nat) (hL' : DL w' a' (L ++ [⟨va, true, r⟩])) (hb : Below w.heap.size w w') => DPut.ok (c := c') hp hL' hlen hb
        have HLEN := Lib.hid hlen
        have hbD : Below Y.heap.size Y Y.drew := bdr0 Y
        have hbA : ∀ o, Below Y.heap.size Y (Y.alloc o).drew := fun o => bdry (box_b Y o)
        have hbAB : ∀ o o', Below Y.heap.size Y ((Y.alloc o).alloc o').drew := fun o o' => bdry (box_b2 Y o o')
        clear hS hy1 hy2 hBy hlen hp
        go_region_held3 (fun w' => (w'.cell? ⟨w.heap.size, 0, none⟩ = some (.int .u64 va) ∧ w'.cell? ⟨w.heap.size, 1, none⟩ = some (.bool true) ∧ w'.cell? ⟨w.heap.size, 2, none⟩ = some (.int .i64 r.k) ∧ w'.cell? ⟨w.heap.size, 3, none⟩ = some (.int .i64 r.s) ∧ w'.cell? ⟨w.heap.size, 4, none⟩ = some (.int .i64 r.u) ∧ w'.cell? ⟨w.heap.size, 5, none⟩ = some (.int .i64 r.p) ∧ w'.cell? ⟨w.heap.size, 6, none⟩ = some (.int .i64 r.m) ∧ w'.cell? ⟨w.heap.size, 7, none⟩ = some (.bool r.g) ∧ w'.cell? ⟨w.heap.size, 8, none⟩ = some (.int .u64 r.v) ∧ w'.cell? ⟨w.heap.size, 9, none⟩ = some (.int .u64 r.a) ∧ w'.cell? ⟨w.heap.size, 10, none⟩ = some (.string r.t)))
          (first | (refine ⟨?_, ?_, ?_, ?_, ?_, ?_, ?_, ?_, ?_, ?_, ?_⟩ <;> with_reducible assumption) | (with_reducible exact HS2.out _ (hbA _)) | (with_reducible exact HS2.out _ (hbAB _ _)) | (with_reducible exact HS2.out _ (hbW.alloc hbW.size _)) | fail)
          (first
            | (refine dstep_append rfl _ _ rfl Y.heap.size (.slice (some ⟨Y.heap.size, 0, none⟩) 0 0) [] rfl (HM.out) a L.length c L rfl rfl (HLY.out _ (hbA _)) (by have := Hl.out; simp; omega) (by simp) ?_; intro v6 w6 hO6 hg6 hat6; have hbW := (hbA _).grown hg6 (by simp) (fun k hk => (World.ownsRow.lt (HM.out) k hk).1); obtain ⟨m0, m1, m2, m3, m4, m5, m6, m7, m8, m9, m10⟩ := HS2.out _ hbW; have HO6 := Lib.hid hO6; clear hO6 hg6 hat6)
            | (refine dstep_append rfl _ _ rfl Y.heap.size (.slice (some ⟨Y.heap.size, 0, none⟩) 0 0) [] rfl (HMo.out _) a L.length c L rfl rfl (HLY.out _ (hbAB _ _)) (by have := Hl.out; simp; omega) (hbAB _ _).size ?_; intro v6 w6 hO6 hg6 hat6; have hbW := (hbAB _ _).grown hg6 (hbAB _ _).size (fun k hk => (World.ownsRow.lt (HM.out) k hk).1); obtain ⟨m0, m1, m2, m3, m4, m5, m6, m7, m8, m9, m10⟩ := HS2.out _ hbW; have HO6 := Lib.hid hO6; have HX6 := Lib.hid ((HXC.out).grown hg6 (fun p hp => (by cases hp; simp [Value.ownBlock]))); clear hO6 hg6 hat6)
            | (refine dstep_append rfl _ _ rfl Y.heap.size (.slice (some ⟨Y.heap.size + 1, 0, none⟩) 0 0) [] rfl (HM2.out _) a L.length c L rfl rfl (HLY.out _ (hbAB _ _)) (by have := Hl.out; simp; omega) (hbAB _ _).size ?_; intro v6 w6 hO6 hg6 hat6; have hbW := (hbAB _ _).grown hg6 (hbAB _ _).size (fun k hk => (by simp [Value.ownBlock] at hk; omega)); obtain ⟨m0, m1, m2, m3, m4, m5, m6, m7, m8, m9, m10⟩ := HS2.out _ hbW; have HO6 := Lib.hid hO6; have HX6 := Lib.hid ((HXD.out).grown hg6 (fun p hp => (by cases hp; simp [Value.ownBlock]))); clear hO6 hg6 hat6)
            | (refine dstep_append rfl _ _ rfl Y.heap.size _ ([] ++ L) rfl (World.ownsRow.alloc HO6.out _) (some ⟨_, 0, none⟩) 1 1 [⟨va, true, r⟩] rfl rfl (HXB.out _) (by have := Hl.out; simp; omega) (by have := hbW.size; simp; omega) ?_; intro v9 w9 hO9 hg9 hat9; have hbV := (hbW.alloc hbW.size _).grown hg9 (by have := hbW.size; simp; omega) (fun k hk => (World.ownsRow.lt HO6.out k hk).1); obtain ⟨n0, n1, n2, n3, n4, n5, n6, n7, n8, n9, n10⟩ := HS2.out _ hbV; obtain ⟨a9, c9, hv9, hD9, _⟩ := hO9.dl; rw [List.nil_append, HLEN.out] at hv9; subst hv9; rw [List.nil_append] at hD9; have HD9 := Lib.hid hD9; have HBV := Lib.hid hbV; clear hO9 hg9 hat9 hD9 hbV)
            | (refine dstep_append rfl _ _ rfl Y.heap.size _ ([] ++ L) rfl HO6.out (some ⟨_, 0, none⟩) 1 1 [⟨va, true, r⟩] rfl rfl HX6.out (by have := Hl.out; simp; omega) hbW.size ?_; intro v9 w9 hO9 hg9 hat9; have hbV := (hbW).grown hg9 (hbW.size) (fun k hk => (World.ownsRow.lt HO6.out k hk).1); obtain ⟨n0, n1, n2, n3, n4, n5, n6, n7, n8, n9, n10⟩ := HS2.out _ hbV; obtain ⟨a9, c9, hv9, hD9, _⟩ := hO9.dl; rw [List.nil_append, HLEN.out] at hv9; subst hv9; rw [List.nil_append] at hD9; have HD9 := Lib.hid hD9; have HBV := Lib.hid hbV; clear hO9 hg9 hat9 hD9 hbV)
            | fail)
        all_goals
          go_wp2_with fail
          refine bodyPost_ret (results_tmp2 rfl _ _ _) rfl ?_
          exact HFin.out _ _ _ HD9.out (bthen HBY.out HBV.out)
      · have hp : put1 L ⟨va, true, r⟩ = 21 := by rw [HP1.out, hw0, if_neg (by decide), if_pos hold]
        have HF := Lib.hid (HE.out 21 hp (by decide))
        obtain ⟨⟨c0, c1, c2, c3, c4, c5, c6, c7, c8, c9, c10⟩, _⟩ := HX.out
        clear hp hq hw0
        go_enter Try.func17, Try.ntmps17
        go_wp2_with fail
        go_quiet (exact Calls.quiet_of_same (HN.out _ HBX.out _))
        go_wp2_with fail
        refine bodyPost_ret (results_tmp2 rfl _ _ _) rfl ?_
        exact HF.out _ (bdrN HBX.out _)
  | false =>
    by_cases hck : checkF r = 0
    · have hw0 : wrongF ⟨va, false, r⟩ = 0 := by rw [HW.out, if_pos rfl, hck]
      rw [hck] at HCk
      clear hnz
      rcases Int.lt_or_le (newestF L) va with hnew | hold
      · have hnw : ¬ va ≤ newestF L := by omega
        have hp : put1 L ⟨va, false, r⟩ = 0 := by rw [HP1.out, hw0, if_neg (by decide), if_neg hnw]
        clear hw0 hck
        go_enter Try.func17, Try.ntmps17
        go_wp2_with (go_at_call 31; ((with_reducible refine (HCk.out _).mono ?_); rintro x W1 ⟨rfl, hb1⟩))
        obtain ⟨⟨c0, c1, c2, c3, c4, c5, c6, c7, c8, c9, c10⟩, hbW1⟩ := HH.out _ hb1
        have HW1 := Lib.hid hbW1
        clear hbW1
        go_quiet (exact Calls.quiet_of_same (HN.out _ HW1.out _))
        go_wp2_with fail
        obtain ⟨hy1, hy2⟩ := HH.out _ (bdrN hb1 nq)
        generalize (W1.drewN nq) = Y at *
        obtain ⟨_, hBy⟩ : True ∧ Below w.heap.size w Y := ⟨trivial, hy2⟩
        have hS : ∀ Z, Below Y.heap.size Y Z → (Z.cell? ⟨w.heap.size, 0, none⟩ = some (.int .u64 va) ∧ Z.cell? ⟨w.heap.size, 1, none⟩ = some (.bool false) ∧ Z.cell? ⟨w.heap.size, 2, none⟩ = some (.int .i64 r.k) ∧ Z.cell? ⟨w.heap.size, 3, none⟩ = some (.int .i64 r.s) ∧ Z.cell? ⟨w.heap.size, 4, none⟩ = some (.int .i64 r.u) ∧ Z.cell? ⟨w.heap.size, 5, none⟩ = some (.int .i64 r.p) ∧ Z.cell? ⟨w.heap.size, 6, none⟩ = some (.int .i64 r.m) ∧ Z.cell? ⟨w.heap.size, 7, none⟩ = some (.bool r.g) ∧ Z.cell? ⟨w.heap.size, 8, none⟩ = some (.int .u64 r.v) ∧ Z.cell? ⟨w.heap.size, 9, none⟩ = some (.int .u64 r.a) ∧ Z.cell? ⟨w.heap.size, 10, none⟩ = some (.string r.t)) := fun Z hb => delev_below (v := ⟨va, false, r⟩) hy1 hb
        obtain ⟨k0, k1, k2, k3, k4, k5, k6, k7, k8, k9, k10⟩ := hS Y.drew (bdr0 Y)
        have HS2 := Lib.hid hS
        have HLY := Lib.hid fun (Z : World) (h : Below Y.heap.size Y Z) => HL.out.below (bthen hBy h)
        have HBY := Lib.hid hBy
        have HXB := Lib.hid fun (Z : World) => DL.box Z ⟨va, false, r⟩
        have hxc : DL ((Y.alloc (.cells #[] 53)).alloc (.cells (#[.int .u64 va, .bool false, .int .i64 r.k, .int .i64 r.s, .int .i64 r.u, .int .i64 r.p, .int .i64 r.m, .bool r.g, .int .u64 r.v, .int .u64 r.a, .string r.t]) 53)).drew (some ⟨Y.heap.size + 1, 0, none⟩) [⟨va, false, r⟩] := (dl_second Y _ ⟨va, false, r⟩).drew
        have hxd : DL ((Y.alloc (.cells (#[.int .u64 va, .bool false, .int .i64 r.k, .int .i64 r.s, .int .i64 r.u, .int .i64 r.p, .int .i64 r.m, .bool r.g, .int .u64 r.v, .int .u64 r.a, .string r.t]) 53)).alloc (.cells #[] 53)).drew (some ⟨Y.heap.size, 0, none⟩) [⟨va, false, r⟩] := ((DL.box Y ⟨va, false, r⟩).below (box_b _ _)).drew
        have HXC := Lib.hid hxc
        have HXD := Lib.hid hxd
        clear hxc hxd
        have HM2 := Lib.hid fun (o : Obj) => (made_second Y o).drew
        have HM := Lib.hid (DO.made Y Y.heap.size (Nat.le_refl _)).drew
        have HMo := Lib.hid fun (o : Obj) => (World.ownsRow.alloc (DO.made Y Y.heap.size (Nat.le_refl _)) o : DO ((Y.alloc (.cells #[] 53)).alloc o) Y.heap.size _ []).drew
        have hlen : (L ++ [(⟨va, false, r⟩ : V)]).length = L.length + 1 := by simp
        have HFin := Lib.hid fun (w' : World) (a' : Option Addr) (c' : Nat) (hL' : DL w' a' (L ++ [⟨va, false, r⟩])) (hb : Below w.heap.size w w') => DPut.ok (c := c') hp hL' hlen hb
        have HLEN := Lib.hid hlen
        have hbD : Below Y.heap.size Y Y.drew := bdr0 Y
        have hbA : ∀ o, Below Y.heap.size Y (Y.alloc o).drew := fun o => bdry (box_b Y o)
        have hbAB : ∀ o o', Below Y.heap.size Y ((Y.alloc o).alloc o').drew := fun o o' => bdry (box_b2 Y o o')
        clear hS hy1 hy2 hBy hlen hp
        go_region_held3 (fun w' => (w'.cell? ⟨w.heap.size, 0, none⟩ = some (.int .u64 va) ∧ w'.cell? ⟨w.heap.size, 1, none⟩ = some (.bool false) ∧ w'.cell? ⟨w.heap.size, 2, none⟩ = some (.int .i64 r.k) ∧ w'.cell? ⟨w.heap.size, 3, none⟩ = some (.int .i64 r.s) ∧ w'.cell? ⟨w.heap.size, 4, none⟩ = some (.int .i64 r.u) ∧ w'.cell? ⟨w.heap.size, 5, none⟩ = some (.int .i64 r.p) ∧ w'.cell? ⟨w.heap.size, 6, none⟩ = some (.int .i64 r.m) ∧ w'.cell? ⟨w.heap.size, 7, none⟩ = some (.bool r.g) ∧ w'.cell? ⟨w.heap.size, 8, none⟩ = some (.int .u64 r.v) ∧ w'.cell? ⟨w.heap.size, 9, none⟩ = some (.int .u64 r.a) ∧ w'.cell? ⟨w.heap.size, 10, none⟩ = some (.string r.t)))
          (first | (refine ⟨?_, ?_, ?_, ?_, ?_, ?_, ?_, ?_, ?_, ?_, ?_⟩ <;> with_reducible assumption) | (with_reducible exact HS2.out _ (hbA _)) | (with_reducible exact HS2.out _ (hbAB _ _)) | (with_reducible exact HS2.out _ (hbW.alloc hbW.size _)) | fail)
          (first
            | (refine dstep_append rfl _ _ rfl Y.heap.size (.slice (some ⟨Y.heap.size, 0, none⟩) 0 0) [] rfl (HM.out) a L.length c L rfl rfl (HLY.out _ (hbA _)) (by have := Hl.out; simp; omega) (by simp) ?_; intro v6 w6 hO6 hg6 hat6; have hbW := (hbA _).grown hg6 (by simp) (fun k hk => (World.ownsRow.lt (HM.out) k hk).1); obtain ⟨m0, m1, m2, m3, m4, m5, m6, m7, m8, m9, m10⟩ := HS2.out _ hbW; have HO6 := Lib.hid hO6; clear hO6 hg6 hat6)
            | (refine dstep_append rfl _ _ rfl Y.heap.size (.slice (some ⟨Y.heap.size, 0, none⟩) 0 0) [] rfl (HMo.out _) a L.length c L rfl rfl (HLY.out _ (hbAB _ _)) (by have := Hl.out; simp; omega) (hbAB _ _).size ?_; intro v6 w6 hO6 hg6 hat6; have hbW := (hbAB _ _).grown hg6 (hbAB _ _).size (fun k hk => (World.ownsRow.lt (HM.out) k hk).1); obtain ⟨m0, m1, m2, m3, m4, m5, m6, m7, m8, m9, m10⟩ := HS2.out _ hbW; have HO6 := Lib.hid hO6; have HX6 := Lib.hid ((HXC.out).grown hg6 (fun p hp => (by cases hp; simp [Value.ownBlock]))); clear hO6 hg6 hat6)
            | (refine dstep_append rfl _ _ rfl Y.heap.size (.slice (some ⟨Y.heap.size + 1, 0, none⟩) 0 0) [] rfl (HM2.out _) a L.length c L rfl rfl (HLY.out _ (hbAB _ _)) (by have := Hl.out; simp; omega) (hbAB _ _).size ?_; intro v6 w6 hO6 hg6 hat6; have hbW := (hbAB _ _).grown hg6 (hbAB _ _).size (fun k hk => (by simp [Value.ownBlock] at hk; omega)); obtain ⟨m0, m1, m2, m3, m4, m5, m6, m7, m8, m9, m10⟩ := HS2.out _ hbW; have HO6 := Lib.hid hO6; have HX6 := Lib.hid ((HXD.out).grown hg6 (fun p hp => (by cases hp; simp [Value.ownBlock]))); clear hO6 hg6 hat6)
            | (refine dstep_append rfl _ _ rfl Y.heap.size _ ([] ++ L) rfl (World.ownsRow.alloc HO6.out _) (some ⟨_, 0, none⟩) 1 1 [⟨va, false, r⟩] rfl rfl (HXB.out _) (by have := Hl.out; simp; omega) (by have := hbW.size; simp; omega) ?_; intro v9 w9 hO9 hg9 hat9; have hbV := (hbW.alloc hbW.size _).grown hg9 (by have := hbW.size; simp; omega) (fun k hk => (World.ownsRow.lt HO6.out k hk).1); obtain ⟨n0, n1, n2, n3, n4, n5, n6, n7, n8, n9, n10⟩ := HS2.out _ hbV; obtain ⟨a9, c9, hv9, hD9, _⟩ := hO9.dl; rw [List.nil_append, HLEN.out] at hv9; subst hv9; rw [List.nil_append] at hD9; have HD9 := Lib.hid hD9; have HBV := Lib.hid hbV; clear hO9 hg9 hat9 hD9 hbV)
            | (refine dstep_append rfl _ _ rfl Y.heap.size _ ([] ++ L) rfl HO6.out (some ⟨_, 0, none⟩) 1 1 [⟨va, false, r⟩] rfl rfl HX6.out (by have := Hl.out; simp; omega) hbW.size ?_; intro v9 w9 hO9 hg9 hat9; have hbV := (hbW).grown hg9 (hbW.size) (fun k hk => (World.ownsRow.lt HO6.out k hk).1); obtain ⟨n0, n1, n2, n3, n4, n5, n6, n7, n8, n9, n10⟩ := HS2.out _ hbV; obtain ⟨a9, c9, hv9, hD9, _⟩ := hO9.dl; rw [List.nil_append, HLEN.out] at hv9; subst hv9; rw [List.nil_append] at hD9; have HD9 := Lib.hid hD9; have HBV := Lib.hid hbV; clear hO9 hg9 hat9 hD9 hbV)
            | fail)
        all_goals
          go_wp2_with fail
          refine bodyPost_ret (results_tmp2 rfl _ _ _) rfl ?_
          exact HFin.out _ _ _ HD9.out (bthen HBY.out HBV.out)
      · have hp : put1 L ⟨va, false, r⟩ = 21 := by rw [HP1.out, hw0, if_neg (by decide), if_pos hold]
        have HF := Lib.hid (HE.out 21 hp (by decide))
        clear hp hck hw0
        go_enter Try.func17, Try.ntmps17
        go_wp2_with (go_at_call 31; ((with_reducible refine (HCk.out _).mono ?_); rintro x W1 ⟨rfl, hb1⟩))
        obtain ⟨⟨c0, c1, c2, c3, c4, c5, c6, c7, c8, c9, c10⟩, hbW1⟩ := HH.out _ hb1
        have HW1 := Lib.hid hbW1
        clear hbW1
        go_quiet (exact Calls.quiet_of_same (HN.out _ HW1.out _))
        go_wp2_with fail
        refine bodyPost_ret (results_tmp2 rfl _ _ _) rfl ?_
        exact HF.out _ (bdrN HW1.out _)
    · have hw0 : wrongF ⟨va, false, r⟩ = checkF r := by rw [HW.out, if_pos rfl]
      have hp : put1 L ⟨va, false, r⟩ = checkF r := by rw [HP1.out, hw0, if_pos hck]
      have HF := Lib.hid (HE.out _ hp hck)
      clear hp hw0 HW HP1
      generalize checkF r = e at *
      have hne : (e != 0) = true := by simpa using hck
      clear hnz
      go_enter Try.func17, Try.ntmps17
      go_wp2_with (go_at_call 31; ((with_reducible refine (HCk.out _).mono ?_); rintro x W1 ⟨rfl, hb1⟩))
      refine bodyPost_ret (results_tmp2 rfl _ _ _) rfl ?_
      exact HF.out _ (HH.out _ hb1).2
end Go.Proofs.Ytpbdgfgjlccapaa.cw
