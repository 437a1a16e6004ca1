/-
  The walks of layer 10: is a record right.
-/
import Derived.Test.YtpbdgfgjlccapaaRecC
import Derived.Deep.DrawnRows
import Derived.Deep.DeepCutAuto
namespace Go.Proofs.Ytpbdgfgjlccapaa.rw
open Go.RowKit Go.Proofs.Ytpbdgfgjlccapaa.ba Go.Proofs.Ytpbdgfgjlccapaa.rp
set_option maxRecDepth 8000
set_option linter.unusedVariables false
attribute [local go_sem ↓] Go.wp_at_zero Go.wp_at_succ

theorem bdry {B : Nat} {w w' : World} (h : Below B w w') : Below B w w'.drew := ⟨h.os, h.tape, h.output, h.size, h.block⟩
theorem nine_cells {r : R} {W : World} {g : Nat} (h : Blk W g 30 (#[.int .u8 r.k, .int .u8 r.s, .int .u8 r.u, .int .u8 r.p, .int .u8 r.m, .bool r.g, .int .u32 r.v, .int .u64 r.a, .string r.t])) : W.cell? ⟨g, 0, none⟩ = some (.int .u8 r.k) ∧ W.cell? ⟨g, 1, none⟩ = some (.int .u8 r.s) ∧ W.cell? ⟨g, 2, none⟩ = some (.int .u8 r.u) ∧ W.cell? ⟨g, 3, none⟩ = some (.int .u8 r.p) ∧ W.cell? ⟨g, 4, none⟩ = some (.int .u8 r.m) ∧ W.cell? ⟨g, 5, none⟩ = some (.bool r.g) ∧ W.cell? ⟨g, 6, none⟩ = some (.int .u32 r.v) ∧ W.cell? ⟨g, 7, none⟩ = some (.int .u64 r.a) ∧ W.cell? ⟨g, 8, none⟩ = some (.string r.t) :=
  ⟨h.cell 0, h.cell 1, h.cell 2, h.cell 3, h.cell 4, h.cell 5, h.cell 6, h.cell 7, h.cell 8⟩
def eqR (r q : R) : Bool := r.k == q.k && (r.s == q.s && (r.u == q.u && (r.p == q.p && (r.m == q.m && (r.g == q.g && (r.v == q.v && (r.a == q.a && r.t.toList == q.t.toList)))))))
theorem toList_nil (t : ByteArray) : (t.toList == (⟨#[]⟩ : ByteArray).toList) = decide (t = ⟨#[]⟩) := by
  rw [Bool.eq_iff_iff]
  simp only [beq_iff_eq, decide_eq_true_eq]
  exact ⟨fun h => toList_inj h, fun h => by rw [h]⟩
theorem bare_eq (r : R) : eqR (bareF r) ⟨r.k, 0, 0, 0, 0, false, 0, 0, ⟨#[]⟩⟩ = bareB r := by
  obtain ⟨k, s, u, p, m, g, v, a, t⟩ := r
  have hkk : k = 1 ∨ k = 2 ∨ k = 4 ∨ k = 5 ∨ k = 6 ∨ (k ≠ 1 ∧ k ≠ 2 ∧ k ≠ 4 ∧ k ≠ 5 ∧ k ≠ 6) := by omega
  unfold eqR bareB bareZ
  rw [Bool.eq_iff_iff]
  simp only [toList_nil]
  rcases hkk with rfl | rfl | rfl | rfl | rfl | ⟨n1, n2, n4, n5, n6⟩
  · simp [bareF, zj, usesK, setZ]
  · simp [bareF, zj, usesK, setZ]
  · simp [bareF, zj, usesK, setZ]
  · simp [bareF, zj, usesK, setZ]
  · simp [bareF, zj, usesK, setZ]
  · have hu : usesK k = [] := by unfold usesK; rw [if_neg n1, if_neg n2, if_neg n4, if_neg n5, if_neg n6]
    simp [bareF, hu, zj, n1, n2, n4, n5, n6]
theorem check_ways (r : R) (hck : checkF r = if ¬ bareZ r then 3 else if ¬ inZ r then 5 else if 60 < r.t.size then 2 else if r.g = true ∧ r.t ≠ ⟨#[]⟩ then 3 else 0) :
    (bareB r = false ∧ checkF r = 3) ∨ (bareB r = true ∧ inB r = false ∧ checkF r = 5) ∨ (bareB r = true ∧ inB r = true ∧ 60 < r.t.size ∧ checkF r = 2) ∨ (bareB r = true ∧ inB r = true ∧ r.t.size ≤ 60 ∧ r.g = true ∧ r.t ≠ ⟨#[]⟩ ∧ checkF r = 3) ∨ (bareB r = true ∧ inB r = true ∧ r.t.size ≤ 60 ∧ r.g = true ∧ r.t = ⟨#[]⟩ ∧ checkF r = 0) ∨ (bareB r = true ∧ inB r = true ∧ r.t.size ≤ 60 ∧ r.g = false ∧ checkF r = 0) := by
  rw [hck]
  unfold bareB inB
  by_cases h1 : bareZ r
  · by_cases h2 : inZ r
    · by_cases h3 : 60 < r.t.size
      · simp [h1, h2, h3]
      · have h3' : r.t.size ≤ 60 := by omega
        cases hg : r.g
        · simp [h1, h2, h3, h3']
        · by_cases h5 : r.t = ⟨#[]⟩
          · refine .inr (.inr (.inr (.inr (.inl ⟨by simpa using h1, by simpa using h2, h3', rfl, h5, ?_⟩))))
            rw [if_neg (fun h => h h1), if_neg (fun h => h h2), if_neg h3, if_neg (fun h => h.2 h5)]
          · simp [h1, h2, h3, h3', h5]
    · simp [h1, h2]
  · simp [h1]
set_option maxHeartbeats 1000000 in
theorem run_eq_rec (r q : R) (W : World) : (Op.equalIn 10000 30 (.agg #[.int .u8 r.k, .int .u8 r.s, .int .u8 r.u, .int .u8 r.p, .int .u8 r.m, .bool r.g, .int .u32 r.v, .int .u64 r.a, .string r.t]) (.agg #[.int .u8 q.k, .int .u8 q.s, .int .u8 q.u, .int .u8 q.p, .int .u8 q.m, .bool q.g, .int .u32 q.v, .int .u64 q.a, .string q.t])).run Try.prog W = .ok (eqR r q) W := by
  have hu : Try.prog.underlying 30 = some (.struct (Try.prog.fieldsOf 30)) := by kernel_rfl
  have hs : Try.prog.stoodInHeld 30 = false := by kernel_rfl
  rw [run_equalIn_agg W 9999 _ _ _ hu hs]
  simp [go_sem]
  unfold eqR
  repeat' split
  all_goals simp_all
theorem run_bare_neq (r : R) : ∀ W, (binOp .neq 30 (.agg (cellsOf (bareF r))) (.agg #[.int .u8 r.k, .int .u8 0, .int .u8 0, .int .u8 0, .int .u8 0, .bool false, .int .u32 0, .int .u64 0, .string ⟨#[]⟩])).run Try.prog W = .ok (.bool (!(bareB r))) W := by
  intro W
  rw [run_neq_struct]
  have := run_eq_rec (bareF r) ⟨r.k, 0, 0, 0, 0, false, 0, 0, ⟨#[]⟩⟩ W
  unfold cellsOf
  rw [this]
  show Result.ok (Value.bool (!(eqR (bareF r) ⟨r.k, 0, 0, 0, 0, false, 0, 0, ⟨#[]⟩⟩))) W = _
  rw [bare_eq r]

set_option maxRecDepth 100000 in
set_option maxHeartbeats 4000000 in
theorem check_any (r : R) (w : World) (hr : r.ok) :
    Calls Try.prog 39 #[.agg #[.int .u8 r.k, .int .u8 r.s, .int .u8 r.u, .int .u8 r.p, .int .u8 r.m, .bool r.g, .int .u32 r.v, .int .u64 r.a, .string r.t]] w fun x w' => x = .returned (.int .i64 (checkF r)) ∧ Below w.heap.size w w' := by
  have hb1 := Blk.new w 30 (#[.int .u8 r.k, .int .u8 r.s, .int .u8 r.u, .int .u8 r.p, .int .u8 r.m, .bool r.g, .int .u32 r.v, .int .u64 r.a, .string r.t])
  have hb0 : Below w.heap.size w (w.alloc (.cells (#[.int .u8 r.k, .int .u8 r.s, .int .u8 r.u, .int .u8 r.p, .int .u8 r.m, .bool r.g, .int .u32 r.v, .int .u64 r.a, .string r.t]) 30)) := (Below.refl _ _).alloc (Nat.le_refl _) _
  have hrk : r.k < 1 ∨ 6 < r.k ∨ (1 ≤ r.k ∧ r.k ≤ 6) := by omega
  rcases hrk with h | h | ⟨h1, h6⟩
  · have hc : checkF r = 16 := by unfold checkF; rw [if_pos (.inl h)]
    rw [hc]
    have HB0 := Lib.hid hb0
    obtain ⟨hk, hs, hu, hp, hm, hv, ha, ht⟩ := hr
    clear hc hb1 hb0
    go_enter Try.func39, Try.ntmps39
    go_wp2_with fail
    go_ret
    exact ⟨rfl, HB0.out⟩
  · have hc : checkF r = 16 := by unfold checkF; rw [if_pos (.inr h)]
    rw [hc]
    have HB0 := Lib.hid hb0
    obtain ⟨hk, hs, hu, hp, hm, hv, ha, ht⟩ := hr
    have h2 : 1 ≤ r.k := by omega
    clear hc hb1 hb0
    go_enter Try.func39, Try.ntmps39
    go_wp2_with fail
    go_ret
    exact ⟨rfl, HB0.out⟩
  · have hrn := run_bare_neq r
    have HW := Lib.hid fun (W : World) => within_any r W hr h1 h6
    have HBb := Lib.hid fun (W0 W : World) (hB : Blk W0 w.heap.size 30 (#[.int .u8 r.k, .int .u8 r.s, .int .u8 r.u, .int .u8 r.p, .int .u8 r.m, .bool r.g, .int .u32 r.v, .int .u64 r.a, .string r.t])) (h : Below W0.heap.size W0 W) => (bare_any r W hr).mono fun x w' hx => (⟨hx.1, nine_cells (hB.below (bthen h hx.2)), bthen h hx.2⟩ : x = Ending.returned (.agg (cellsOf (bareF r))) ∧ (w'.cell? ⟨w.heap.size, 0, none⟩ = some (.int .u8 r.k) ∧ w'.cell? ⟨w.heap.size, 1, none⟩ = some (.int .u8 r.s) ∧ w'.cell? ⟨w.heap.size, 2, none⟩ = some (.int .u8 r.u) ∧ w'.cell? ⟨w.heap.size, 3, none⟩ = some (.int .u8 r.p) ∧ w'.cell? ⟨w.heap.size, 4, none⟩ = some (.int .u8 r.m) ∧ w'.cell? ⟨w.heap.size, 5, none⟩ = some (.bool r.g) ∧ w'.cell? ⟨w.heap.size, 6, none⟩ = some (.int .u32 r.v) ∧ w'.cell? ⟨w.heap.size, 7, none⟩ = some (.int .u64 r.a) ∧ w'.cell? ⟨w.heap.size, 8, none⟩ = some (.string r.t)) ∧ Below W0.heap.size W0 w')
    have hck : checkF r = if ¬ bareZ r then 3 else if ¬ inZ r then 5 else if 60 < r.t.size then 2 else if r.g = true ∧ r.t ≠ ⟨#[]⟩ then 3 else 0 := by
      unfold checkF
      rw [if_neg (by omega)]
    have HCK := Lib.hid hck
    obtain ⟨hk, hs, hu, hp, hm, hv, ha, ht⟩ := hr
    clear hck
    go_enter Try.func39, Try.ntmps39
    go_wp2_with fail
    generalize (w.alloc (.cells (#[.int .u8 r.k, .int .u8 r.s, .int .u8 r.u, .int .u8 r.p, .int .u8 r.m, .bool r.g, .int .u32 r.v, .int .u64 r.a, .string r.t]) 30)) = W0 at *
    obtain ⟨e0, e1, e2, e3, e4, e5, e6, e7, e8⟩ := nine_cells hb1
    have HB1 := Lib.hid hb1
    have hbW : Below W0.heap.size W0 W0 := Below.refl _ _
    have HBc := Lib.hid fun (W : World) (h : Below W0.heap.size W0 W) => HBb.out W0 W hb1 h
    clear hb1 HBb
    go_region_held3 (fun w' => w'.cell? ⟨w.heap.size, 0, none⟩ = some (.int .u8 r.k) ∧ w'.cell? ⟨w.heap.size, 1, none⟩ = some (.int .u8 r.s) ∧ w'.cell? ⟨w.heap.size, 2, none⟩ = some (.int .u8 r.u) ∧ w'.cell? ⟨w.heap.size, 3, none⟩ = some (.int .u8 r.p) ∧ w'.cell? ⟨w.heap.size, 4, none⟩ = some (.int .u8 r.m) ∧ w'.cell? ⟨w.heap.size, 5, none⟩ = some (.bool r.g) ∧ w'.cell? ⟨w.heap.size, 6, none⟩ = some (.int .u32 r.v) ∧ w'.cell? ⟨w.heap.size, 7, none⟩ = some (.int .u64 r.a) ∧ w'.cell? ⟨w.heap.size, 8, none⟩ = some (.string r.t)) (first | (refine ⟨?_, ?_, ?_, ?_, ?_, ?_, ?_, ?_, ?_⟩ <;> assumption) | go_keep)
      (first
        | (go_at_call 41; ((with_reducible refine (HBc.out _ (bdry hbW)).mono ?_); rintro x W1 ⟨rfl, ⟨p0, p1, p2, p3, p4, p5, p6, p7, p8⟩, hb9⟩))
        | fail)
    all_goals
      have hbz : (bareB r = false ∧ checkF r = 3) ∨ (bareB r = true ∧ inB r = false ∧ checkF r = 5) ∨ (bareB r = true ∧ inB r = true ∧ 60 < r.t.size ∧ checkF r = 2) ∨ (bareB r = true ∧ inB r = true ∧ r.t.size ≤ 60 ∧ r.g = true ∧ r.t ≠ ⟨#[]⟩ ∧ checkF r = 3) ∨ (bareB r = true ∧ inB r = true ∧ r.t.size ≤ 60 ∧ r.g = true ∧ r.t = ⟨#[]⟩ ∧ checkF r = 0) ∨ (bareB r = true ∧ inB r = true ∧ r.t.size ≤ 60 ∧ r.g = false ∧ checkF r = 0) := check_ways r HCK.out
      have hfin := Lib.hid (bthen hb0 hb9)
      have HBb := Lib.hid (HB1.out.below hb9)
      clear HCK hrn HBc hb0 hb9 hbW HB1 e0 e1 e2 e3 e4 e5 e6 e7 e8
      rcases hbz with ⟨z1, zc⟩ | ⟨z1, z2, zc⟩ | ⟨z1, z2, z3, zc⟩ | ⟨z1, z2, z3, z4, z5, zc⟩ | ⟨z1, z2, z3, z4, z5, zc⟩ | ⟨z1, z2, z3, z4, zc⟩
      · have ZC := Lib.hid zc
        rw [z1, Bool.not_false]
        clear zc z1
        go_wp2_with fail
        go_ret
        exact ⟨ret_int ZC.out.symm, hfin.out⟩
      · have ZC := Lib.hid zc
        rw [z1, Bool.not_true]
        rw [z2] at HW
        clear zc z1 z2
        go_wp2_with (go_at_call 42; ((with_reducible refine (HW.out _).mono ?_); rintro x W2 ⟨rfl, hb2⟩))
        go_ret
        exact ⟨ret_int ZC.out.symm, bthen hfin.out hb2⟩
      · have ZC := Lib.hid zc
        rw [z1, Bool.not_true]
        rw [z2] at HW
        have z3' : (60 : Int) < (r.t.size : Int) := by omega
        clear zc z1 z2 z3
        go_wp2_with (go_at_call 42; ((with_reducible refine (HW.out _).mono ?_); rintro x W2 ⟨rfl, hb2⟩; obtain ⟨q0, q1, q2, q3, q4, q5, q6, q7, q8⟩ := nine_cells (HBb.out.below hb2)))
        go_ret
        exact ⟨ret_int ZC.out.symm, bthen hfin.out hb2⟩
      · have ZC := Lib.hid zc
        rw [z1, Bool.not_true]
        rw [z2] at HW
        have z3' : (r.t.size : Int) ≤ 60 := by omega
        have z6 := str_ne z5
        have z7 : r.t.toList.isEmpty = false := by
          cases h : r.t.toList with
          | nil => exact absurd (toList_inj (h.trans (by simp [ByteArray.toList_eq]))) z5
          | cons a b => rfl
        have Z4 := Lib.hid z4
        clear zc z1 z2 z3 z4 z5 z6
        go_wp2_with (go_at_call 42; ((with_reducible refine (HW.out _).mono ?_); rintro x W2 ⟨rfl, hb2⟩; obtain ⟨q0, q1, q2, q3, q4, q5, q6, q7, q8⟩ := nine_cells (HBb.out.below hb2); have z4 := Z4.out))
        go_ret
        exact ⟨ret_int ZC.out.symm, bthen hfin.out hb2⟩
      · have ZC := Lib.hid zc
        rw [z1, Bool.not_true]
        rw [z2] at HW
        have z3' : (r.t.size : Int) ≤ 60 := by omega
        have Z5 := Lib.hid z5; have Z4 := Lib.hid z4
        clear zc z1 z2 z3 z4 z5
        go_wp2_with (go_at_call 42; ((with_reducible refine (HW.out _).mono ?_); rintro x W2 ⟨rfl, hb2⟩; obtain ⟨q0, q1, q2, q3, q4, q5, q6, q7, q8⟩ := nine_cells (HBb.out.below hb2); have z5 := Z5.out; have z4 := Z4.out))
        go_ret
        exact ⟨ret_int ZC.out.symm, bthen hfin.out hb2⟩
      · have ZC := Lib.hid zc
        rw [z1, Bool.not_true]
        rw [z2] at HW
        have z3' : (r.t.size : Int) ≤ 60 := by omega
        have Z4 := Lib.hid z4
        clear zc z1 z2 z3 z4
        go_wp2_with (go_at_call 42; ((with_reducible refine (HW.out _).mono ?_); rintro x W2 ⟨rfl, hb2⟩; obtain ⟨q0, q1, q2, q3, q4, q5, q6, q7, q8⟩ := nine_cells (HBb.out.below hb2); have z4 := Z4.out))
        go_ret
        exact ⟨ret_int ZC.out.symm, bthen hfin.out hb2⟩
end Go.Proofs.Ytpbdgfgjlccapaa.rw
