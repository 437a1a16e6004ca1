/-
  The walks of layer 10: the document's answer whether a record is right.
-/
import Derived.Test.YtpbdgfgjlccapaaRecE
import Derived.Test.YtpbdgfgjlccapaaSeg
namespace Go.Proofs.Ytpbdgfgjlccapaa.rw
open Go.RowKit Go.Proofs.Ytpbdgfgjlccapaa.ba Go.Proofs.Ytpbdgfgjlccapaa.rp Go.Proofs.Ytpbdgfgjlccapaa.sg
set_option maxRecDepth 8000
set_option linter.unusedVariables false

theorem rbare (r : R) (h1 : 1 ≤ r.k) (h6 : r.k ≤ 6) :
    ((((((((r.u ≠ 0 ∧ hasB (usesS r.k) 117 = false) ∨ (r.m ≠ 0 ∧ hasB (usesS r.k) 109 = false)) ∨ (r.p ≠ 0 ∧ hasB (usesS r.k) 112 = false)) ∨ (r.s ≠ 0 ∧ hasB (usesS r.k) 115 = false)) ∨ (r.g = true ∧ hasB (usesS r.k) 103 = false)) ∨ (r.v ≠ 0 ∧ hasB (usesS r.k) 114 = false)) ∨ (r.a ≠ 0 ∧ hasB (usesS r.k) 97 = false)) ∨ (r.t ≠ ⟨#[]⟩ ∧ hasB (usesS r.k) 116 = false)) ↔ ¬ bareZ r := by
  obtain ⟨k, s, u, p, m, g, v, a, t⟩ := r
  simp only at h1 h6 ⊢
  have hkk : k = 1 ∨ k = 2 ∨ k = 3 ∨ k = 4 ∨ k = 5 ∨ k = 6 := by omega
  by_cases ht : t = ⟨#[]⟩ <;> cases g <;> rcases hkk with rfl | rfl | rfl | rfl | rfl | rfl <;> simp [usesS, hasB, bareZ, ht] <;> omega
theorem rin (r : R) (hr : r.ok) (h1 : 1 ≤ r.k) (h6 : r.k ≤ 6) (hz : bareZ r) :
    ((((((15 < r.u ∨ 63 < r.m) ∨ (r.k = 2 ∧ r.m = 0)) ∨ 3 < r.p) ∨ (r.k = 4 ∧ 1 < r.s)) ∨ (r.k = 6 ∧ (r.s < 1 ∨ 5 < r.s))) ∨ (5 ≤ r.k ∧ (r.v < 1 ∨ 4294967295 < r.v))) ↔ ¬ inZ r := by
  obtain ⟨k, s, u, p, m, g, v, a, t⟩ := r
  obtain ⟨hk, hs, hu, hp, hm, hv, ha, ht⟩ := hr
  unfold bareZ at hz
  unfold inZ
  simp only at h1 h6 hk hs hu hp hm hv ha hz ⊢
  omega
theorem rcheck_if (r : R) (h1 : 1 ≤ r.k) (h6 : r.k ≤ 6) : checkF r = if ¬ bareZ r then 3 else if ¬ inZ r then 5 else if 60 < r.t.size then 2 else if r.g = true ∧ r.t ≠ ⟨#[]⟩ then 3 else 0 := by
  unfold checkF
  rw [if_neg (by omega)]
theorem isEmpty_dec (t : ByteArray) : t.toList.isEmpty = decide (t = ⟨#[]⟩) := by
  rw [Bool.eq_iff_iff, List.isEmpty_iff, decide_eq_true_eq]
  exact ⟨fun h => toList_inj (h.trans (by simp [ByteArray.toList_eq])), fun h => by rw [h]; simp [ByteArray.toList_eq]⟩
theorem sg_enter {P : Program} {ops : Array Oper} {Q : Exit → Act → World → Prop} {l : List Oper} {a : Act} {w : World} {N : Nat} {s : List (Nat × Value)} (H : Holds N s a) (h : ∀ a, Holds N s a → wpList P ops Q l a w) : wpList P ops Q l a w := h a H
theorem cf_has (caps : Array Value) (w : World) : (callFunc 38 caps).run Try.prog w = .ok (.enter 38 caps) w := by kernel_rfl
set_option maxRecDepth 100000 in
set_option maxHeartbeats 20000000 in
theorem rcheck_in (k s u p m : Int) (g : Bool) (v a : Int) (t : ByteArray) (w : World) (hr : R.ok ⟨k, s, u, p, m, g, v, a, t⟩) (h1 : 1 ≤ k) (h6 : k ≤ 6) :
    Calls Try.prog 31 #[.agg #[.int .i64 k, .int .i64 s, .int .i64 u, .int .i64 p, .int .i64 m, .bool g, .int .u64 v, .int .u64 a, .string t]] w fun x w' => x = .returned (.int .i64 (checkF ⟨k, s, u, p, m, g, v, a, t⟩)) ∧ Below w.heap.size w w' := by
  have HB1 := Lib.hid (Blk.new w 51 #[.int .i64 k, .int .i64 s, .int .i64 u, .int .i64 p, .int .i64 m, .bool g, .int .u64 v, .int .u64 a, .string t])
  have HB0 := Lib.hid ((Below.refl _ w).alloc (Nat.le_refl _) (.cells #[.int .i64 k, .int .i64 s, .int .i64 u, .int .i64 p, .int .i64 m, .bool g, .int .u64 v, .int .u64 a, .string t] 51))
  have HCK := Lib.hid (rcheck_if ⟨k, s, u, p, m, g, v, a, t⟩ h1 h6)
  have HBR := Lib.hid (rbare ⟨k, s, u, p, m, g, v, a, t⟩ h1 h6)
  have HIN := Lib.hid (rin ⟨k, s, u, p, m, g, v, a, t⟩ hr h1 h6)
  have hU := fun (W : World) => ruses_any k W h1 h6
  have hus : (usesS k).length ≤ 4 := by unfold usesS; repeat' split
                                        all_goals simp
  have hH := fun (c : Int) (W : World) => has_any ⟨(usesS k).toArray⟩ c W (by show (usesS k).toArray.size ≤ 1000; simp; omega)
  obtain ⟨U, hUe⟩ : ∃ U : ByteArray, U = ⟨(usesS k).toArray⟩ := ⟨_, rfl⟩
  rw [← hUe] at hU
  have HU := Lib.hid hU
  have Hu : Hid (∀ W : World, Calls Try.prog 38 #[.string ⟨(usesS k).toArray⟩, .int .u8 117] W fun x w' => x = .returned (.bool (hasB (usesS k) 117)) ∧ W = w') := Lib.hid (hH 117)
  obtain ⟨qu, Eu⟩ : ∃ b, b = hasB (usesS k) 117 := ⟨_, rfl⟩
  rw [← hUe, ← Eu] at Hu
  rw [← Eu] at HBR
  have Hm : Hid (∀ W : World, Calls Try.prog 38 #[.string ⟨(usesS k).toArray⟩, .int .u8 109] W fun x w' => x = .returned (.bool (hasB (usesS k) 109)) ∧ W = w') := Lib.hid (hH 109)
  obtain ⟨qm, Em⟩ : ∃ b, b = hasB (usesS k) 109 := ⟨_, rfl⟩
  rw [← hUe, ← Em] at Hm
  rw [← Em] at HBR
  have Hp : Hid (∀ W : World, Calls Try.prog 38 #[.string ⟨(usesS k).toArray⟩, .int .u8 112] W fun x w' => x = .returned (.bool (hasB (usesS k) 112)) ∧ W = w') := Lib.hid (hH 112)
  obtain ⟨qp, Ep⟩ : ∃ b, b = hasB (usesS k) 112 := ⟨_, rfl⟩
  rw [← hUe, ← Ep] at Hp
  rw [← Ep] at HBR
  have Hs : Hid (∀ W : World, Calls Try.prog 38 #[.string ⟨(usesS k).toArray⟩, .int .u8 115] W fun x w' => x = .returned (.bool (hasB (usesS k) 115)) ∧ W = w') := Lib.hid (hH 115)
  obtain ⟨qs, Es⟩ : ∃ b, b = hasB (usesS k) 115 := ⟨_, rfl⟩
  rw [← hUe, ← Es] at Hs
  rw [← Es] at HBR
  have Hg : Hid (∀ W : World, Calls Try.prog 38 #[.string ⟨(usesS k).toArray⟩, .int .u8 103] W fun x w' => x = .returned (.bool (hasB (usesS k) 103)) ∧ W = w') := Lib.hid (hH 103)
  obtain ⟨qg, Eg⟩ : ∃ b, b = hasB (usesS k) 103 := ⟨_, rfl⟩
  rw [← hUe, ← Eg] at Hg
  rw [← Eg] at HBR
  have Hr : Hid (∀ W : World, Calls Try.prog 38 #[.string ⟨(usesS k).toArray⟩, .int .u8 114] W fun x w' => x = .returned (.bool (hasB (usesS k) 114)) ∧ W = w') := Lib.hid (hH 114)
  obtain ⟨qr, Er⟩ : ∃ b, b = hasB (usesS k) 114 := ⟨_, rfl⟩
  rw [← hUe, ← Er] at Hr
  rw [← Er] at HBR
  have Ha : Hid (∀ W : World, Calls Try.prog 38 #[.string ⟨(usesS k).toArray⟩, .int .u8 97] W fun x w' => x = .returned (.bool (hasB (usesS k) 97)) ∧ W = w') := Lib.hid (hH 97)
  obtain ⟨qa, Ea⟩ : ∃ b, b = hasB (usesS k) 97 := ⟨_, rfl⟩
  rw [← hUe, ← Ea] at Ha
  rw [← Ea] at HBR
  have Ht : Hid (∀ W : World, Calls Try.prog 38 #[.string ⟨(usesS k).toArray⟩, .int .u8 116] W fun x w' => x = .returned (.bool (hasB (usesS k) 116)) ∧ W = w') := Lib.hid (hH 116)
  obtain ⟨qt, Et⟩ : ∃ b, b = hasB (usesS k) 116 := ⟨_, rfl⟩
  rw [← hUe, ← Et] at Ht
  rw [← Et] at HBR
  obtain ⟨_, ⟨s0, s1⟩, ⟨u0, u1⟩, ⟨p0, p1⟩, ⟨m0, m1⟩, ⟨v0, v1⟩, ⟨a0, _⟩, _⟩ := hr
  simp only at s0 s1 u0 u1 p0 p1 m0 m1 v0 v1 a0
  clear hU hH hus hUe Eu Em Ep Es Eg Er Ea Et
  go_enter Try.func31, Try.ntmps31
  go_upto_region 4 with (go_at_call 37; ((with_reducible refine (HU.out _).mono ?_); rintro x W1 ⟨rfl, hb⟩; have hB2 := HB1.out.below hb; have c0 : W1.cell? ⟨w.heap.size, 0, none⟩ = some (.int .i64 k) := hB2.cell 0; have c1 : W1.cell? ⟨w.heap.size, 1, none⟩ = some (.int .i64 s) := hB2.cell 1; have c2 : W1.cell? ⟨w.heap.size, 2, none⟩ = some (.int .i64 u) := hB2.cell 2; have c3 : W1.cell? ⟨w.heap.size, 3, none⟩ = some (.int .i64 p) := hB2.cell 3; have c4 : W1.cell? ⟨w.heap.size, 4, none⟩ = some (.int .i64 m) := hB2.cell 4; have c5 : W1.cell? ⟨w.heap.size, 5, none⟩ = some (.bool g) := hB2.cell 5; have c6 : W1.cell? ⟨w.heap.size, 6, none⟩ = some (.int .u64 v) := hB2.cell 6; have c7 : W1.cell? ⟨w.heap.size, 7, none⟩ = some (.int .u64 a) := hB2.cell 7; have c8 : W1.cell? ⟨w.heap.size, 8, none⟩ = some (.string t) := hB2.cell 8; have HBW := Lib.hid (bthen HB0.out hb); clear hB2 hb))
  have hfa0 : ∀ (g : Nat) (W : World), (Instr.fieldAt 51 (.pointer (some ⟨g, 0, none⟩)) 0).run Try.prog W = .ok (.pointer (some ⟨g, 0, none⟩)) W := fun _ _ => by kernel_rfl
  have hfa1 : ∀ (g : Nat) (W : World), (Instr.fieldAt 51 (.pointer (some ⟨g, 0, none⟩)) 1).run Try.prog W = .ok (.pointer (some ⟨g, 1, none⟩)) W := fun _ _ => by kernel_rfl
  have hfa2 : ∀ (g : Nat) (W : World), (Instr.fieldAt 51 (.pointer (some ⟨g, 0, none⟩)) 2).run Try.prog W = .ok (.pointer (some ⟨g, 2, none⟩)) W := fun _ _ => by kernel_rfl
  have hfa3 : ∀ (g : Nat) (W : World), (Instr.fieldAt 51 (.pointer (some ⟨g, 0, none⟩)) 3).run Try.prog W = .ok (.pointer (some ⟨g, 3, none⟩)) W := fun _ _ => by kernel_rfl
  have hfa4 : ∀ (g : Nat) (W : World), (Instr.fieldAt 51 (.pointer (some ⟨g, 0, none⟩)) 4).run Try.prog W = .ok (.pointer (some ⟨g, 4, none⟩)) W := fun _ _ => by kernel_rfl
  have hfa5 : ∀ (g : Nat) (W : World), (Instr.fieldAt 51 (.pointer (some ⟨g, 0, none⟩)) 5).run Try.prog W = .ok (.pointer (some ⟨g, 5, none⟩)) W := fun _ _ => by kernel_rfl
  have hfa6 : ∀ (g : Nat) (W : World), (Instr.fieldAt 51 (.pointer (some ⟨g, 0, none⟩)) 6).run Try.prog W = .ok (.pointer (some ⟨g, 6, none⟩)) W := fun _ _ => by kernel_rfl
  have hfa7 : ∀ (g : Nat) (W : World), (Instr.fieldAt 51 (.pointer (some ⟨g, 0, none⟩)) 7).run Try.prog W = .ok (.pointer (some ⟨g, 7, none⟩)) W := fun _ _ => by kernel_rfl
  have hfa8 : ∀ (g : Nat) (W : World), (Instr.fieldAt 51 (.pointer (some ⟨g, 0, none⟩)) 8).run Try.prog W = .ok (.pointer (some ⟨g, 8, none⟩)) W := fun _ _ => by kernel_rfl
  obtain ⟨zg, Zg⟩ : ∃ z : Bool, g = z := ⟨_, rfl⟩
  have hld0 : (Instr.loadAt 3 (.pointer (some ⟨w.heap.size, 0, none⟩))).run Try.prog W1 = .ok (.int .i64 k) W1 := by have := c0; simp [go_sem, this]
  have hld1 : (Instr.loadAt 3 (.pointer (some ⟨w.heap.size, 1, none⟩))).run Try.prog W1 = .ok (.int .i64 s) W1 := by have := c1; simp [go_sem, this]
  have hld2 : (Instr.loadAt 3 (.pointer (some ⟨w.heap.size, 2, none⟩))).run Try.prog W1 = .ok (.int .i64 u) W1 := by have := c2; simp [go_sem, this]
  have hld3 : (Instr.loadAt 3 (.pointer (some ⟨w.heap.size, 3, none⟩))).run Try.prog W1 = .ok (.int .i64 p) W1 := by have := c3; simp [go_sem, this]
  have hld4 : (Instr.loadAt 3 (.pointer (some ⟨w.heap.size, 4, none⟩))).run Try.prog W1 = .ok (.int .i64 m) W1 := by have := c4; simp [go_sem, this]
  have hld5 : (Instr.loadAt 4 (.pointer (some ⟨w.heap.size, 5, none⟩))).run Try.prog W1 = .ok (.bool zg) W1 := by have := c5; simp [go_sem, this, Zg]
  have hld6 : (Instr.loadAt 24 (.pointer (some ⟨w.heap.size, 6, none⟩))).run Try.prog W1 = .ok (.int .u64 v) W1 := by have := c6; simp [go_sem, this]
  have hld7 : (Instr.loadAt 24 (.pointer (some ⟨w.heap.size, 7, none⟩))).run Try.prog W1 = .ok (.int .u64 a) W1 := by have := c7; simp [go_sem, this]
  have hld8 : (Instr.loadAt 9 (.pointer (some ⟨w.heap.size, 8, none⟩))).run Try.prog W1 = .ok (.string t) W1 := by have := c8; simp [go_sem, this]
  obtain ⟨zu, ZU⟩ : ∃ z : Bool, decide (u ≠ 0) = z := ⟨_, rfl⟩
  have hzu : ∀ i : Nat, (do eqGuard .neq 3 (.tmp i) (.const (.int .i64 0)) (.int .i64 u) (.int .i64 0); binOp .neq 3 (.int .i64 u) (.int .i64 0) : Sem Value).run Try.prog W1 = .ok (.bool zu) W1 := fun i => by rw [← ZU]; simp [go_sem, eqGuard]; rfl
  obtain ⟨zm, ZM⟩ : ∃ z : Bool, decide (m ≠ 0) = z := ⟨_, rfl⟩
  have hzm : ∀ i : Nat, (do eqGuard .neq 3 (.tmp i) (.const (.int .i64 0)) (.int .i64 m) (.int .i64 0); binOp .neq 3 (.int .i64 m) (.int .i64 0) : Sem Value).run Try.prog W1 = .ok (.bool zm) W1 := fun i => by rw [← ZM]; simp [go_sem, eqGuard]; rfl
  obtain ⟨zp, ZP⟩ : ∃ z : Bool, decide (p ≠ 0) = z := ⟨_, rfl⟩
  have hzp : ∀ i : Nat, (do eqGuard .neq 3 (.tmp i) (.const (.int .i64 0)) (.int .i64 p) (.int .i64 0); binOp .neq 3 (.int .i64 p) (.int .i64 0) : Sem Value).run Try.prog W1 = .ok (.bool zp) W1 := fun i => by rw [← ZP]; simp [go_sem, eqGuard]; rfl
  obtain ⟨zs, ZS⟩ : ∃ z : Bool, decide (s ≠ 0) = z := ⟨_, rfl⟩
  have hzs : ∀ i : Nat, (do eqGuard .neq 3 (.tmp i) (.const (.int .i64 0)) (.int .i64 s) (.int .i64 0); binOp .neq 3 (.int .i64 s) (.int .i64 0) : Sem Value).run Try.prog W1 = .ok (.bool zs) W1 := fun i => by rw [← ZS]; simp [go_sem, eqGuard]; rfl
  obtain ⟨zv, ZV⟩ : ∃ z : Bool, decide (v ≠ 0) = z := ⟨_, rfl⟩
  have hzv : ∀ i : Nat, (do eqGuard .neq 24 (.tmp i) (.const (.int .u64 0)) (.int .u64 v) (.int .u64 0); binOp .neq 24 (.int .u64 v) (.int .u64 0) : Sem Value).run Try.prog W1 = .ok (.bool zv) W1 := fun i => by rw [← ZV]; simp [go_sem, eqGuard]; rfl
  obtain ⟨za, ZA⟩ : ∃ z : Bool, decide (a ≠ 0) = z := ⟨_, rfl⟩
  have hza : ∀ i : Nat, (do eqGuard .neq 24 (.tmp i) (.const (.int .u64 0)) (.int .u64 a) (.int .u64 0); binOp .neq 24 (.int .u64 a) (.int .u64 0) : Sem Value).run Try.prog W1 = .ok (.bool za) W1 := fun i => by rw [← ZA]; simp [go_sem, eqGuard]; rfl
  obtain ⟨zt, ZT⟩ : ∃ z : Bool, decide (t ≠ ⟨#[]⟩) = z := ⟨_, rfl⟩
  have hzt : ∀ i : Nat, (do eqGuard .neq 9 (.tmp i) (.const (.string { data := #[] })) (.string t) (.string { data := #[] }); binOp .neq 9 (.string t) (.string { data := #[] }) : Sem Value).run Try.prog W1 = .ok (.bool zt) W1 := fun i => by rw [← ZT]; simp [go_sem, eqGuard, isEmpty_dec]
  obtain ⟨y1, Y1⟩ : ∃ z : Bool, decide (15 < u) = z := ⟨_, rfl⟩
  have hy1 : ∀ i : Nat, (do eqGuard .gtr 3 (.tmp i) (.const (.int .i64 15)) (.int .i64 u) (.int .i64 15); binOp .gtr 3 (.int .i64 u) (.int .i64 15) : Sem Value).run Try.prog W1 = .ok (.bool y1) W1 := fun i => by rw [← Y1]; simp [go_sem, eqGuard]
  obtain ⟨y2, Y2⟩ : ∃ z : Bool, decide (63 < m) = z := ⟨_, rfl⟩
  have hy2 : ∀ i : Nat, (do eqGuard .gtr 3 (.tmp i) (.const (.int .i64 63)) (.int .i64 m) (.int .i64 63); binOp .gtr 3 (.int .i64 m) (.int .i64 63) : Sem Value).run Try.prog W1 = .ok (.bool y2) W1 := fun i => by rw [← Y2]; simp [go_sem, eqGuard]
  obtain ⟨y3, Y3⟩ : ∃ z : Bool, decide (k = 2) = z := ⟨_, rfl⟩
  have hy3 : ∀ i : Nat, (do eqGuard .eql 3 (.tmp i) (.const (.int .i64 2)) (.int .i64 k) (.int .i64 2); binOp .eql 3 (.int .i64 k) (.int .i64 2) : Sem Value).run Try.prog W1 = .ok (.bool y3) W1 := fun i => by rw [← Y3]; simp [go_sem, eqGuard]; rfl
  obtain ⟨y4, Y4⟩ : ∃ z : Bool, decide (m = 0) = z := ⟨_, rfl⟩
  have hy4 : ∀ i : Nat, (do eqGuard .eql 3 (.tmp i) (.const (.int .i64 0)) (.int .i64 m) (.int .i64 0); binOp .eql 3 (.int .i64 m) (.int .i64 0) : Sem Value).run Try.prog W1 = .ok (.bool y4) W1 := fun i => by rw [← Y4]; simp [go_sem, eqGuard]; rfl
  obtain ⟨y5, Y5⟩ : ∃ z : Bool, decide (3 < p) = z := ⟨_, rfl⟩
  have hy5 : ∀ i : Nat, (do eqGuard .gtr 3 (.tmp i) (.const (.int .i64 3)) (.int .i64 p) (.int .i64 3); binOp .gtr 3 (.int .i64 p) (.int .i64 3) : Sem Value).run Try.prog W1 = .ok (.bool y5) W1 := fun i => by rw [← Y5]; simp [go_sem, eqGuard]
  obtain ⟨y6, Y6⟩ : ∃ z : Bool, decide (k = 4) = z := ⟨_, rfl⟩
  have hy6 : ∀ i : Nat, (do eqGuard .eql 3 (.tmp i) (.const (.int .i64 4)) (.int .i64 k) (.int .i64 4); binOp .eql 3 (.int .i64 k) (.int .i64 4) : Sem Value).run Try.prog W1 = .ok (.bool y6) W1 := fun i => by rw [← Y6]; simp [go_sem, eqGuard]; rfl
  obtain ⟨y7, Y7⟩ : ∃ z : Bool, decide (1 < s) = z := ⟨_, rfl⟩
  have hy7 : ∀ i : Nat, (do eqGuard .gtr 3 (.tmp i) (.const (.int .i64 1)) (.int .i64 s) (.int .i64 1); binOp .gtr 3 (.int .i64 s) (.int .i64 1) : Sem Value).run Try.prog W1 = .ok (.bool y7) W1 := fun i => by rw [← Y7]; simp [go_sem, eqGuard]
  obtain ⟨y8, Y8⟩ : ∃ z : Bool, decide (k = 6) = z := ⟨_, rfl⟩
  have hy8 : ∀ i : Nat, (do eqGuard .eql 3 (.tmp i) (.const (.int .i64 6)) (.int .i64 k) (.int .i64 6); binOp .eql 3 (.int .i64 k) (.int .i64 6) : Sem Value).run Try.prog W1 = .ok (.bool y8) W1 := fun i => by rw [← Y8]; simp [go_sem, eqGuard]; rfl
  obtain ⟨y9, Y9⟩ : ∃ z : Bool, decide (s < 1) = z := ⟨_, rfl⟩
  have hy9 : ∀ i : Nat, (do eqGuard .lss 3 (.tmp i) (.const (.int .i64 1)) (.int .i64 s) (.int .i64 1); binOp .lss 3 (.int .i64 s) (.int .i64 1) : Sem Value).run Try.prog W1 = .ok (.bool y9) W1 := fun i => by rw [← Y9]; simp [go_sem, eqGuard]
  obtain ⟨y10, Y10⟩ : ∃ z : Bool, decide (5 < s) = z := ⟨_, rfl⟩
  have hy10 : ∀ i : Nat, (do eqGuard .gtr 3 (.tmp i) (.const (.int .i64 5)) (.int .i64 s) (.int .i64 5); binOp .gtr 3 (.int .i64 s) (.int .i64 5) : Sem Value).run Try.prog W1 = .ok (.bool y10) W1 := fun i => by rw [← Y10]; simp [go_sem, eqGuard]
  obtain ⟨y11, Y11⟩ : ∃ z : Bool, decide (5 ≤ k) = z := ⟨_, rfl⟩
  have hy11 : ∀ i : Nat, (do eqGuard .geq 3 (.tmp i) (.const (.int .i64 5)) (.int .i64 k) (.int .i64 5); binOp .geq 3 (.int .i64 k) (.int .i64 5) : Sem Value).run Try.prog W1 = .ok (.bool y11) W1 := fun i => by rw [← Y11]; simp [go_sem, eqGuard]
  obtain ⟨y12, Y12⟩ : ∃ z : Bool, decide (v < 1) = z := ⟨_, rfl⟩
  have hy12 : ∀ i : Nat, (do eqGuard .lss 24 (.tmp i) (.const (.int .u64 1)) (.int .u64 v) (.int .u64 1); binOp .lss 24 (.int .u64 v) (.int .u64 1) : Sem Value).run Try.prog W1 = .ok (.bool y12) W1 := fun i => by rw [← Y12]; simp [go_sem, eqGuard]
  obtain ⟨y13, Y13⟩ : ∃ z : Bool, decide (4294967295 < v) = z := ⟨_, rfl⟩
  have hy13 : ∀ i : Nat, (do eqGuard .gtr 24 (.tmp i) (.const (.int .u64 4294967295)) (.int .u64 v) (.int .u64 4294967295); binOp .gtr 24 (.int .u64 v) (.int .u64 4294967295) : Sem Value).run Try.prog W1 = .ok (.bool y13) W1 := fun i => by rw [← Y13]; simp [go_sem, eqGuard]
  obtain ⟨y14, Y14⟩ : ∃ z : Bool, decide (60 < (t.size : Int)) = z := ⟨_, rfl⟩
  have hy14 : ∀ i : Nat, (do eqGuard .gtr 3 (.tmp i) (.const (.int .i64 60)) (.int .i64 (t.size : Int)) (.int .i64 60); binOp .gtr 3 (.int .i64 (t.size : Int)) (.int .i64 60) : Sem Value).run Try.prog W1 = .ok (.bool y14) W1 := fun i => by rw [← Y14]; simp [go_sem, eqGuard]
  refine wp_region_lit ?_
  refine sg_enter (N := 166) (Holds.start2 (t1 := 1) (t2 := 3) (v1 := .pointer (some ⟨w.heap.size, 0, none⟩)) (v2 := .string U) rfl rfl rfl rfl) fun ac H => ?_
  refine wpList_cut 8 (fun ac' w' => W1 = w' ∧ Holds 166 [(1, .pointer (some ⟨w.heap.size, 0, none⟩)), (3, .string U), (22, .bool (zu && (!qu)))] ac') ?_ ?_
  · skip
    refine sg_fa H (hfa2 _ _) rfl rfl rfl rfl fun ac H => ?_
    refine sg_load H hld2 rfl rfl rfl rfl fun ac H => ?_
    refine sg_bin H (hzu _) rfl rfl rfl rfl fun ac H => ?_
    refine sg_move H rfl rfl rfl rfl fun ac H => ?_
    cases zu with
    | true =>
      refine sg_move H rfl rfl rfl rfl fun ac H => ?_
      refine sg_call2 H (fun caps => cf_has caps W1) (Hu.out W1) rfl rfl rfl rfl fun ac H => ?_
      refine sg_not H rfl rfl rfl rfl fun ac H => ?_
      refine sg_and H rfl rfl rfl (c := (true && (!qu))) (.inr ⟨rfl, rfl⟩) rfl rfl fun ac H => ?_
      exact ⟨rfl, H.three rfl rfl rfl⟩
    | false =>
      refine sg_skip H rfl rfl rfl rfl fun ac H => ?_
      refine sg_skip H rfl rfl rfl rfl fun ac H => ?_
      refine sg_skip H rfl rfl rfl rfl fun ac H => ?_
      refine sg_and H rfl rfl rfl (c := (false && (!qu))) (.inl ⟨rfl, rfl⟩) rfl rfl fun ac H => ?_
      exact ⟨rfl, H.three rfl rfl rfl⟩
  rintro ac w' ⟨rfl, H⟩
  try simp only [List.drop_succ_cons, List.drop_zero]
  obtain ⟨b1, Eb1⟩ : ∃ z : Bool, (zu && (!qu)) = z := ⟨_, rfl⟩
  rw [Eb1] at H
  refine wpList_cut 10 (fun ac' w' => W1 = w' ∧ Holds 166 [(1, .pointer (some ⟨w.heap.size, 0, none⟩)), (3, .string U), (32, .bool (b1 || (zm && (!qm))))] ac') ?_ ?_
  · skip
    refine sg_move H rfl rfl rfl rfl fun ac H => ?_
    cases b1 with
    | true =>
      refine sg_skip H rfl rfl rfl rfl fun ac H => ?_
      refine sg_skip H rfl rfl rfl rfl fun ac H => ?_
      refine sg_skip H rfl rfl rfl rfl fun ac H => ?_
      refine sg_skip H rfl rfl rfl rfl fun ac H => ?_
      refine sg_skip H rfl rfl rfl rfl fun ac H => ?_
      refine sg_skip H rfl rfl rfl rfl fun ac H => ?_
      refine sg_skip H rfl rfl rfl rfl fun ac H => ?_
      refine sg_skip H rfl rfl rfl rfl fun ac H => ?_
      refine sg_or H rfl rfl rfl (c := (true || (zm && (!qm)))) (.inl ⟨rfl, rfl⟩) rfl rfl fun ac H => ?_
      exact ⟨rfl, H.three rfl rfl rfl⟩
    | false =>
      refine sg_fa H (hfa4 _ _) rfl rfl rfl rfl fun ac H => ?_
      refine sg_load H hld4 rfl rfl rfl rfl fun ac H => ?_
      refine sg_bin H (hzm _) rfl rfl rfl rfl fun ac H => ?_
      refine sg_move H rfl rfl rfl rfl fun ac H => ?_
      cases zm with
      | true =>
        refine sg_move H rfl rfl rfl rfl fun ac H => ?_
        refine sg_call2 H (fun caps => cf_has caps W1) (Hm.out W1) rfl rfl rfl rfl fun ac H => ?_
        refine sg_not H rfl rfl rfl rfl fun ac H => ?_
        refine sg_and H rfl rfl rfl (c := (true && (!qm))) (.inr ⟨rfl, rfl⟩) rfl rfl fun ac H => ?_
        refine sg_or H rfl rfl rfl (c := (false || (true && (!qm)))) (.inr ⟨rfl, rfl⟩) rfl rfl fun ac H => ?_
        exact ⟨rfl, H.three rfl rfl rfl⟩
      | false =>
        refine sg_skip H rfl rfl rfl rfl fun ac H => ?_
        refine sg_skip H rfl rfl rfl rfl fun ac H => ?_
        refine sg_skip H rfl rfl rfl rfl fun ac H => ?_
        refine sg_and H rfl rfl rfl (c := (false && (!qm))) (.inl ⟨rfl, rfl⟩) rfl rfl fun ac H => ?_
        refine sg_or H rfl rfl rfl (c := (false || (false && (!qm)))) (.inr ⟨rfl, rfl⟩) rfl rfl fun ac H => ?_
        exact ⟨rfl, H.three rfl rfl rfl⟩
  rintro ac w' ⟨rfl, H⟩
  try simp only [List.drop_succ_cons, List.drop_zero]
  obtain ⟨b2, Eb2⟩ : ∃ z : Bool, (b1 || (zm && (!qm))) = z := ⟨_, rfl⟩
  rw [Eb2] at H
  refine wpList_cut 10 (fun ac' w' => W1 = w' ∧ Holds 166 [(1, .pointer (some ⟨w.heap.size, 0, none⟩)), (3, .string U), (42, .bool (b2 || (zp && (!qp))))] ac') ?_ ?_
  · skip
    refine sg_move H rfl rfl rfl rfl fun ac H => ?_
    cases b2 with
    | true =>
      refine sg_skip H rfl rfl rfl rfl fun ac H => ?_
      refine sg_skip H rfl rfl rfl rfl fun ac H => ?_
      refine sg_skip H rfl rfl rfl rfl fun ac H => ?_
      refine sg_skip H rfl rfl rfl rfl fun ac H => ?_
      refine sg_skip H rfl rfl rfl rfl fun ac H => ?_
      refine sg_skip H rfl rfl rfl rfl fun ac H => ?_
      refine sg_skip H rfl rfl rfl rfl fun ac H => ?_
      refine sg_skip H rfl rfl rfl rfl fun ac H => ?_
      refine sg_or H rfl rfl rfl (c := (true || (zp && (!qp)))) (.inl ⟨rfl, rfl⟩) rfl rfl fun ac H => ?_
      exact ⟨rfl, H.three rfl rfl rfl⟩
    | false =>
      refine sg_fa H (hfa3 _ _) rfl rfl rfl rfl fun ac H => ?_
      refine sg_load H hld3 rfl rfl rfl rfl fun ac H => ?_
      refine sg_bin H (hzp _) rfl rfl rfl rfl fun ac H => ?_
      refine sg_move H rfl rfl rfl rfl fun ac H => ?_
      cases zp with
      | true =>
        refine sg_move H rfl rfl rfl rfl fun ac H => ?_
        refine sg_call2 H (fun caps => cf_has caps W1) (Hp.out W1) rfl rfl rfl rfl fun ac H => ?_
        refine sg_not H rfl rfl rfl rfl fun ac H => ?_
        refine sg_and H rfl rfl rfl (c := (true && (!qp))) (.inr ⟨rfl, rfl⟩) rfl rfl fun ac H => ?_
        refine sg_or H rfl rfl rfl (c := (false || (true && (!qp)))) (.inr ⟨rfl, rfl⟩) rfl rfl fun ac H => ?_
        exact ⟨rfl, H.three rfl rfl rfl⟩
      | false =>
        refine sg_skip H rfl rfl rfl rfl fun ac H => ?_
        refine sg_skip H rfl rfl rfl rfl fun ac H => ?_
        refine sg_skip H rfl rfl rfl rfl fun ac H => ?_
        refine sg_and H rfl rfl rfl (c := (false && (!qp))) (.inl ⟨rfl, rfl⟩) rfl rfl fun ac H => ?_
        refine sg_or H rfl rfl rfl (c := (false || (false && (!qp)))) (.inr ⟨rfl, rfl⟩) rfl rfl fun ac H => ?_
        exact ⟨rfl, H.three rfl rfl rfl⟩
  rintro ac w' ⟨rfl, H⟩
  try simp only [List.drop_succ_cons, List.drop_zero]
  obtain ⟨b3, Eb3⟩ : ∃ z : Bool, (b2 || (zp && (!qp))) = z := ⟨_, rfl⟩
  rw [Eb3] at H
  refine wpList_cut 10 (fun ac' w' => W1 = w' ∧ Holds 166 [(1, .pointer (some ⟨w.heap.size, 0, none⟩)), (3, .string U), (52, .bool (b3 || (zs && (!qs))))] ac') ?_ ?_
  · skip
    refine sg_move H rfl rfl rfl rfl fun ac H => ?_
    cases b3 with
    | true =>
      refine sg_skip H rfl rfl rfl rfl fun ac H => ?_
      refine sg_skip H rfl rfl rfl rfl fun ac H => ?_
      refine sg_skip H rfl rfl rfl rfl fun ac H => ?_
      refine sg_skip H rfl rfl rfl rfl fun ac H => ?_
      refine sg_skip H rfl rfl rfl rfl fun ac H => ?_
      refine sg_skip H rfl rfl rfl rfl fun ac H => ?_
      refine sg_skip H rfl rfl rfl rfl fun ac H => ?_
      refine sg_skip H rfl rfl rfl rfl fun ac H => ?_
      refine sg_or H rfl rfl rfl (c := (true || (zs && (!qs)))) (.inl ⟨rfl, rfl⟩) rfl rfl fun ac H => ?_
      exact ⟨rfl, H.three rfl rfl rfl⟩
    | false =>
      refine sg_fa H (hfa1 _ _) rfl rfl rfl rfl fun ac H => ?_
      refine sg_load H hld1 rfl rfl rfl rfl fun ac H => ?_
      refine sg_bin H (hzs _) rfl rfl rfl rfl fun ac H => ?_
      refine sg_move H rfl rfl rfl rfl fun ac H => ?_
      cases zs with
      | true =>
        refine sg_move H rfl rfl rfl rfl fun ac H => ?_
        refine sg_call2 H (fun caps => cf_has caps W1) (Hs.out W1) rfl rfl rfl rfl fun ac H => ?_
        refine sg_not H rfl rfl rfl rfl fun ac H => ?_
        refine sg_and H rfl rfl rfl (c := (true && (!qs))) (.inr ⟨rfl, rfl⟩) rfl rfl fun ac H => ?_
        refine sg_or H rfl rfl rfl (c := (false || (true && (!qs)))) (.inr ⟨rfl, rfl⟩) rfl rfl fun ac H => ?_
        exact ⟨rfl, H.three rfl rfl rfl⟩
      | false =>
        refine sg_skip H rfl rfl rfl rfl fun ac H => ?_
        refine sg_skip H rfl rfl rfl rfl fun ac H => ?_
        refine sg_skip H rfl rfl rfl rfl fun ac H => ?_
        refine sg_and H rfl rfl rfl (c := (false && (!qs))) (.inl ⟨rfl, rfl⟩) rfl rfl fun ac H => ?_
        refine sg_or H rfl rfl rfl (c := (false || (false && (!qs)))) (.inr ⟨rfl, rfl⟩) rfl rfl fun ac H => ?_
        exact ⟨rfl, H.three rfl rfl rfl⟩
  rintro ac w' ⟨rfl, H⟩
  try simp only [List.drop_succ_cons, List.drop_zero]
  obtain ⟨b4, Eb4⟩ : ∃ z : Bool, (b3 || (zs && (!qs))) = z := ⟨_, rfl⟩
  rw [Eb4] at H
  refine wpList_cut 9 (fun ac' w' => W1 = w' ∧ Holds 166 [(1, .pointer (some ⟨w.heap.size, 0, none⟩)), (3, .string U), (61, .bool (b4 || (zg && (!qg))))] ac') ?_ ?_
  · skip
    refine sg_move H rfl rfl rfl rfl fun ac H => ?_
    cases b4 with
    | true =>
      refine sg_skip H rfl rfl rfl rfl fun ac H => ?_
      refine sg_skip H rfl rfl rfl rfl fun ac H => ?_
      refine sg_skip H rfl rfl rfl rfl fun ac H => ?_
      refine sg_skip H rfl rfl rfl rfl fun ac H => ?_
      refine sg_skip H rfl rfl rfl rfl fun ac H => ?_
      refine sg_skip H rfl rfl rfl rfl fun ac H => ?_
      refine sg_skip H rfl rfl rfl rfl fun ac H => ?_
      refine sg_or H rfl rfl rfl (c := (true || (zg && (!qg)))) (.inl ⟨rfl, rfl⟩) rfl rfl fun ac H => ?_
      exact ⟨rfl, H.three rfl rfl rfl⟩
    | false =>
      refine sg_fa H (hfa5 _ _) rfl rfl rfl rfl fun ac H => ?_
      refine sg_load H hld5 rfl rfl rfl rfl fun ac H => ?_
      refine sg_move H rfl rfl rfl rfl fun ac H => ?_
      cases zg with
      | true =>
        refine sg_move H rfl rfl rfl rfl fun ac H => ?_
        refine sg_call2 H (fun caps => cf_has caps W1) (Hg.out W1) rfl rfl rfl rfl fun ac H => ?_
        refine sg_not H rfl rfl rfl rfl fun ac H => ?_
        refine sg_and H rfl rfl rfl (c := (true && (!qg))) (.inr ⟨rfl, rfl⟩) rfl rfl fun ac H => ?_
        refine sg_or H rfl rfl rfl (c := (false || (true && (!qg)))) (.inr ⟨rfl, rfl⟩) rfl rfl fun ac H => ?_
        exact ⟨rfl, H.three rfl rfl rfl⟩
      | false =>
        refine sg_skip H rfl rfl rfl rfl fun ac H => ?_
        refine sg_skip H rfl rfl rfl rfl fun ac H => ?_
        refine sg_skip H rfl rfl rfl rfl fun ac H => ?_
        refine sg_and H rfl rfl rfl (c := (false && (!qg))) (.inl ⟨rfl, rfl⟩) rfl rfl fun ac H => ?_
        refine sg_or H rfl rfl rfl (c := (false || (false && (!qg)))) (.inr ⟨rfl, rfl⟩) rfl rfl fun ac H => ?_
        exact ⟨rfl, H.three rfl rfl rfl⟩
  rintro ac w' ⟨rfl, H⟩
  try simp only [List.drop_succ_cons, List.drop_zero]
  obtain ⟨b5, Eb5⟩ : ∃ z : Bool, (b4 || (zg && (!qg))) = z := ⟨_, rfl⟩
  rw [Eb5] at H
  refine wpList_cut 10 (fun ac' w' => W1 = w' ∧ Holds 166 [(1, .pointer (some ⟨w.heap.size, 0, none⟩)), (3, .string U), (71, .bool (b5 || (zv && (!qr))))] ac') ?_ ?_
  · skip
    refine sg_move H rfl rfl rfl rfl fun ac H => ?_
    cases b5 with
    | true =>
      refine sg_skip H rfl rfl rfl rfl fun ac H => ?_
      refine sg_skip H rfl rfl rfl rfl fun ac H => ?_
      refine sg_skip H rfl rfl rfl rfl fun ac H => ?_
      refine sg_skip H rfl rfl rfl rfl fun ac H => ?_
      refine sg_skip H rfl rfl rfl rfl fun ac H => ?_
      refine sg_skip H rfl rfl rfl rfl fun ac H => ?_
      refine sg_skip H rfl rfl rfl rfl fun ac H => ?_
      refine sg_skip H rfl rfl rfl rfl fun ac H => ?_
      refine sg_or H rfl rfl rfl (c := (true || (zv && (!qr)))) (.inl ⟨rfl, rfl⟩) rfl rfl fun ac H => ?_
      exact ⟨rfl, H.three rfl rfl rfl⟩
    | false =>
      refine sg_fa H (hfa6 _ _) rfl rfl rfl rfl fun ac H => ?_
      refine sg_load H hld6 rfl rfl rfl rfl fun ac H => ?_
      refine sg_bin H (hzv _) rfl rfl rfl rfl fun ac H => ?_
      refine sg_move H rfl rfl rfl rfl fun ac H => ?_
      cases zv with
      | true =>
        refine sg_move H rfl rfl rfl rfl fun ac H => ?_
        refine sg_call2 H (fun caps => cf_has caps W1) (Hr.out W1) rfl rfl rfl rfl fun ac H => ?_
        refine sg_not H rfl rfl rfl rfl fun ac H => ?_
        refine sg_and H rfl rfl rfl (c := (true && (!qr))) (.inr ⟨rfl, rfl⟩) rfl rfl fun ac H => ?_
        refine sg_or H rfl rfl rfl (c := (false || (true && (!qr)))) (.inr ⟨rfl, rfl⟩) rfl rfl fun ac H => ?_
        exact ⟨rfl, H.three rfl rfl rfl⟩
      | false =>
        refine sg_skip H rfl rfl rfl rfl fun ac H => ?_
        refine sg_skip H rfl rfl rfl rfl fun ac H => ?_
        refine sg_skip H rfl rfl rfl rfl fun ac H => ?_
        refine sg_and H rfl rfl rfl (c := (false && (!qr))) (.inl ⟨rfl, rfl⟩) rfl rfl fun ac H => ?_
        refine sg_or H rfl rfl rfl (c := (false || (false && (!qr)))) (.inr ⟨rfl, rfl⟩) rfl rfl fun ac H => ?_
        exact ⟨rfl, H.three rfl rfl rfl⟩
  rintro ac w' ⟨rfl, H⟩
  try simp only [List.drop_succ_cons, List.drop_zero]
  obtain ⟨b6, Eb6⟩ : ∃ z : Bool, (b5 || (zv && (!qr))) = z := ⟨_, rfl⟩
  rw [Eb6] at H
  refine wpList_cut 10 (fun ac' w' => W1 = w' ∧ Holds 166 [(1, .pointer (some ⟨w.heap.size, 0, none⟩)), (3, .string U), (81, .bool (b6 || (za && (!qa))))] ac') ?_ ?_
  · skip
    refine sg_move H rfl rfl rfl rfl fun ac H => ?_
    cases b6 with
    | true =>
      refine sg_skip H rfl rfl rfl rfl fun ac H => ?_
      refine sg_skip H rfl rfl rfl rfl fun ac H => ?_
      refine sg_skip H rfl rfl rfl rfl fun ac H => ?_
      refine sg_skip H rfl rfl rfl rfl fun ac H => ?_
      refine sg_skip H rfl rfl rfl rfl fun ac H => ?_
      refine sg_skip H rfl rfl rfl rfl fun ac H => ?_
      refine sg_skip H rfl rfl rfl rfl fun ac H => ?_
      refine sg_skip H rfl rfl rfl rfl fun ac H => ?_
      refine sg_or H rfl rfl rfl (c := (true || (za && (!qa)))) (.inl ⟨rfl, rfl⟩) rfl rfl fun ac H => ?_
      exact ⟨rfl, H.three rfl rfl rfl⟩
    | false =>
      refine sg_fa H (hfa7 _ _) rfl rfl rfl rfl fun ac H => ?_
      refine sg_load H hld7 rfl rfl rfl rfl fun ac H => ?_
      refine sg_bin H (hza _) rfl rfl rfl rfl fun ac H => ?_
      refine sg_move H rfl rfl rfl rfl fun ac H => ?_
      cases za with
      | true =>
        refine sg_move H rfl rfl rfl rfl fun ac H => ?_
        refine sg_call2 H (fun caps => cf_has caps W1) (Ha.out W1) rfl rfl rfl rfl fun ac H => ?_
        refine sg_not H rfl rfl rfl rfl fun ac H => ?_
        refine sg_and H rfl rfl rfl (c := (true && (!qa))) (.inr ⟨rfl, rfl⟩) rfl rfl fun ac H => ?_
        refine sg_or H rfl rfl rfl (c := (false || (true && (!qa)))) (.inr ⟨rfl, rfl⟩) rfl rfl fun ac H => ?_
        exact ⟨rfl, H.three rfl rfl rfl⟩
      | false =>
        refine sg_skip H rfl rfl rfl rfl fun ac H => ?_
        refine sg_skip H rfl rfl rfl rfl fun ac H => ?_
        refine sg_skip H rfl rfl rfl rfl fun ac H => ?_
        refine sg_and H rfl rfl rfl (c := (false && (!qa))) (.inl ⟨rfl, rfl⟩) rfl rfl fun ac H => ?_
        refine sg_or H rfl rfl rfl (c := (false || (false && (!qa)))) (.inr ⟨rfl, rfl⟩) rfl rfl fun ac H => ?_
        exact ⟨rfl, H.three rfl rfl rfl⟩
  rintro ac w' ⟨rfl, H⟩
  try simp only [List.drop_succ_cons, List.drop_zero]
  obtain ⟨b7, Eb7⟩ : ∃ z : Bool, (b6 || (za && (!qa))) = z := ⟨_, rfl⟩
  rw [Eb7] at H
  refine wpList_cut 10 (fun ac' w' => W1 = w' ∧ Holds 166 [(1, .pointer (some ⟨w.heap.size, 0, none⟩)), (3, .string U), (91, .bool (b7 || (zt && (!qt))))] ac') ?_ ?_
  · skip
    refine sg_move H rfl rfl rfl rfl fun ac H => ?_
    cases b7 with
    | true =>
      refine sg_skip H rfl rfl rfl rfl fun ac H => ?_
      refine sg_skip H rfl rfl rfl rfl fun ac H => ?_
      refine sg_skip H rfl rfl rfl rfl fun ac H => ?_
      refine sg_skip H rfl rfl rfl rfl fun ac H => ?_
      refine sg_skip H rfl rfl rfl rfl fun ac H => ?_
      refine sg_skip H rfl rfl rfl rfl fun ac H => ?_
      refine sg_skip H rfl rfl rfl rfl fun ac H => ?_
      refine sg_skip H rfl rfl rfl rfl fun ac H => ?_
      refine sg_or H rfl rfl rfl (c := (true || (zt && (!qt)))) (.inl ⟨rfl, rfl⟩) rfl rfl fun ac H => ?_
      exact ⟨rfl, H.three rfl rfl rfl⟩
    | false =>
      refine sg_fa H (hfa8 _ _) rfl rfl rfl rfl fun ac H => ?_
      refine sg_load H hld8 rfl rfl rfl rfl fun ac H => ?_
      refine sg_bin H (hzt _) rfl rfl rfl rfl fun ac H => ?_
      refine sg_move H rfl rfl rfl rfl fun ac H => ?_
      cases zt with
      | true =>
        refine sg_move H rfl rfl rfl rfl fun ac H => ?_
        refine sg_call2 H (fun caps => cf_has caps W1) (Ht.out W1) rfl rfl rfl rfl fun ac H => ?_
        refine sg_not H rfl rfl rfl rfl fun ac H => ?_
        refine sg_and H rfl rfl rfl (c := (true && (!qt))) (.inr ⟨rfl, rfl⟩) rfl rfl fun ac H => ?_
        refine sg_or H rfl rfl rfl (c := (false || (true && (!qt)))) (.inr ⟨rfl, rfl⟩) rfl rfl fun ac H => ?_
        exact ⟨rfl, H.three rfl rfl rfl⟩
      | false =>
        refine sg_skip H rfl rfl rfl rfl fun ac H => ?_
        refine sg_skip H rfl rfl rfl rfl fun ac H => ?_
        refine sg_skip H rfl rfl rfl rfl fun ac H => ?_
        refine sg_and H rfl rfl rfl (c := (false && (!qt))) (.inl ⟨rfl, rfl⟩) rfl rfl fun ac H => ?_
        refine sg_or H rfl rfl rfl (c := (false || (false && (!qt)))) (.inr ⟨rfl, rfl⟩) rfl rfl fun ac H => ?_
        exact ⟨rfl, H.three rfl rfl rfl⟩
  rintro ac w' ⟨rfl, H⟩
  try simp only [List.drop_succ_cons, List.drop_zero]
  obtain ⟨b8, Eb8⟩ : ∃ z : Bool, (b7 || (zt && (!qt))) = z := ⟨_, rfl⟩
  rw [Eb8] at H
  have hb8 : b8 = true ↔ ¬ bareZ ⟨k, s, u, p, m, g, v, a, t⟩ := by
    rw [← HBR.out, ← Eb8, ← Eb7, ← Eb6, ← Eb5, ← Eb4, ← Eb3, ← Eb2, ← Eb1, ← ZU, ← ZM, ← ZP, ← ZS, ← Zg, ← ZV, ← ZA, ← ZT]
    simp
  refine wpList_nil ?_
  go_step
  go_step
  cases b8 with
  | true =>
    have HC : Hid (checkF ⟨k, s, u, p, m, g, v, a, t⟩ = 3) := Lib.hid (by rw [HCK.out]; exact if_pos (hb8.1 rfl))
    refine wp_cond (ev H rfl) ?_
    simp only [↓reduceIte]
    refine wp_seq ?_
    refine wp_region_lit ?_
    refine sg_assignc H rfl rfl rfl fun ac H => ?_
    refine wpList_nil ?_
    refine wp_ret ?_
    simp only [Exit.then]
    refine bodyPost_ret ((results_tmp rfl _ _ _).trans (congrArg (fun x => Result.ok x W1) (ev H (t := 2) rfl))) H.defers ?_
    exact ⟨ret_int HC.out.symm, HBW.out⟩
  | false =>
    refine wp_cond (ev H rfl) ?_
    simp only [Bool.false_eq_true, ↓reduceIte]
    refine wp_skip ?_
    simp only [Exit.then]
    go_step
    go_step
    go_step
    have hbz : bareZ ⟨k, s, u, p, m, g, v, a, t⟩ := Classical.byContradiction fun h => Bool.noConfusion (hb8.2 h)
    refine wp_region_lit ?_
    refine wpList_cut 8 (fun ac' w' => W1 = w' ∧ Holds 166 [(1, .pointer (some ⟨w.heap.size, 0, none⟩)), (3, .string U), (99, .bool (y1 || y2))] ac') ?_ ?_
    · skip
      refine sg_fa H (hfa2 _ _) rfl rfl rfl rfl fun ac H => ?_
      refine sg_load H hld2 rfl rfl rfl rfl fun ac H => ?_
      refine sg_bin H (hy1 _) rfl rfl rfl rfl fun ac H => ?_
      refine sg_move H rfl rfl rfl rfl fun ac H => ?_
      cases y1 with
      | true =>
        refine sg_skip H rfl rfl rfl rfl fun ac H => ?_
        refine sg_skip H rfl rfl rfl rfl fun ac H => ?_
        refine sg_skip H rfl rfl rfl rfl fun ac H => ?_
        refine sg_or H rfl rfl rfl (c := (true || y2)) (.inl ⟨rfl, rfl⟩) rfl rfl fun ac H => ?_
        exact ⟨rfl, H.three rfl rfl rfl⟩
      | false =>
        refine sg_fa H (hfa4 _ _) rfl rfl rfl rfl fun ac H => ?_
        refine sg_load H hld4 rfl rfl rfl rfl fun ac H => ?_
        refine sg_bin H (hy2 _) rfl rfl rfl rfl fun ac H => ?_
        refine sg_or H rfl rfl rfl (c := (false || y2)) (.inr ⟨rfl, rfl⟩) rfl rfl fun ac H => ?_
        exact ⟨rfl, H.three rfl rfl rfl⟩
    rintro ac w' ⟨rfl, H⟩
    try simp only [List.drop_succ_cons, List.drop_zero]
    obtain ⟨d1, Ed1⟩ : ∃ z : Bool, (y1 || y2) = z := ⟨_, rfl⟩
    rw [Ed1] at H
    refine wpList_cut 10 (fun ac' w' => W1 = w' ∧ Holds 166 [(1, .pointer (some ⟨w.heap.size, 0, none⟩)), (3, .string U), (109, .bool (d1 || (y3 && y4)))] ac') ?_ ?_
    · skip
      refine sg_move H rfl rfl rfl rfl fun ac H => ?_
      cases d1 with
      | true =>
        refine sg_skip H rfl rfl rfl rfl fun ac H => ?_
        refine sg_skip H rfl rfl rfl rfl fun ac H => ?_
        refine sg_skip H rfl rfl rfl rfl fun ac H => ?_
        refine sg_skip H rfl rfl rfl rfl fun ac H => ?_
        refine sg_skip H rfl rfl rfl rfl fun ac H => ?_
        refine sg_skip H rfl rfl rfl rfl fun ac H => ?_
        refine sg_skip H rfl rfl rfl rfl fun ac H => ?_
        refine sg_skip H rfl rfl rfl rfl fun ac H => ?_
        refine sg_or H rfl rfl rfl (c := (true || (y3 && y4))) (.inl ⟨rfl, rfl⟩) rfl rfl fun ac H => ?_
        exact ⟨rfl, H.three rfl rfl rfl⟩
      | false =>
        refine sg_fa H (hfa0 _ _) rfl rfl rfl rfl fun ac H => ?_
        refine sg_load H hld0 rfl rfl rfl rfl fun ac H => ?_
        refine sg_bin H (hy3 _) rfl rfl rfl rfl fun ac H => ?_
        refine sg_move H rfl rfl rfl rfl fun ac H => ?_
        cases y3 with
        | true =>
          refine sg_fa H (hfa4 _ _) rfl rfl rfl rfl fun ac H => ?_
          refine sg_load H hld4 rfl rfl rfl rfl fun ac H => ?_
          refine sg_bin H (hy4 _) rfl rfl rfl rfl fun ac H => ?_
          refine sg_and H rfl rfl rfl (c := (true && y4)) (.inr ⟨rfl, rfl⟩) rfl rfl fun ac H => ?_
          refine sg_or H rfl rfl rfl (c := (false || (true && y4))) (.inr ⟨rfl, rfl⟩) rfl rfl fun ac H => ?_
          exact ⟨rfl, H.three rfl rfl rfl⟩
        | false =>
          refine sg_skip H rfl rfl rfl rfl fun ac H => ?_
          refine sg_skip H rfl rfl rfl rfl fun ac H => ?_
          refine sg_skip H rfl rfl rfl rfl fun ac H => ?_
          refine sg_and H rfl rfl rfl (c := (false && y4)) (.inl ⟨rfl, rfl⟩) rfl rfl fun ac H => ?_
          refine sg_or H rfl rfl rfl (c := (false || (false && y4))) (.inr ⟨rfl, rfl⟩) rfl rfl fun ac H => ?_
          exact ⟨rfl, H.three rfl rfl rfl⟩
    rintro ac w' ⟨rfl, H⟩
    try simp only [List.drop_succ_cons, List.drop_zero]
    obtain ⟨d2, Ed2⟩ : ∃ z : Bool, (d1 || (y3 && y4)) = z := ⟨_, rfl⟩
    rw [Ed2] at H
    refine wpList_cut 5 (fun ac' w' => W1 = w' ∧ Holds 166 [(1, .pointer (some ⟨w.heap.size, 0, none⟩)), (3, .string U), (114, .bool (d2 || y5))] ac') ?_ ?_
    · skip
      refine sg_move H rfl rfl rfl rfl fun ac H => ?_
      cases d2 with
      | true =>
        refine sg_skip H rfl rfl rfl rfl fun ac H => ?_
        refine sg_skip H rfl rfl rfl rfl fun ac H => ?_
        refine sg_skip H rfl rfl rfl rfl fun ac H => ?_
        refine sg_or H rfl rfl rfl (c := (true || y5)) (.inl ⟨rfl, rfl⟩) rfl rfl fun ac H => ?_
        exact ⟨rfl, H.three rfl rfl rfl⟩
      | false =>
        refine sg_fa H (hfa3 _ _) rfl rfl rfl rfl fun ac H => ?_
        refine sg_load H hld3 rfl rfl rfl rfl fun ac H => ?_
        refine sg_bin H (hy5 _) rfl rfl rfl rfl fun ac H => ?_
        refine sg_or H rfl rfl rfl (c := (false || y5)) (.inr ⟨rfl, rfl⟩) rfl rfl fun ac H => ?_
        exact ⟨rfl, H.three rfl rfl rfl⟩
    rintro ac w' ⟨rfl, H⟩
    try simp only [List.drop_succ_cons, List.drop_zero]
    obtain ⟨d3, Ed3⟩ : ∃ z : Bool, (d2 || y5) = z := ⟨_, rfl⟩
    rw [Ed3] at H
    refine wpList_cut 10 (fun ac' w' => W1 = w' ∧ Holds 166 [(1, .pointer (some ⟨w.heap.size, 0, none⟩)), (3, .string U), (124, .bool (d3 || (y6 && y7)))] ac') ?_ ?_
    · skip
      refine sg_move H rfl rfl rfl rfl fun ac H => ?_
      cases d3 with
      | true =>
        refine sg_skip H rfl rfl rfl rfl fun ac H => ?_
        refine sg_skip H rfl rfl rfl rfl fun ac H => ?_
        refine sg_skip H rfl rfl rfl rfl fun ac H => ?_
        refine sg_skip H rfl rfl rfl rfl fun ac H => ?_
        refine sg_skip H rfl rfl rfl rfl fun ac H => ?_
        refine sg_skip H rfl rfl rfl rfl fun ac H => ?_
        refine sg_skip H rfl rfl rfl rfl fun ac H => ?_
        refine sg_skip H rfl rfl rfl rfl fun ac H => ?_
        refine sg_or H rfl rfl rfl (c := (true || (y6 && y7))) (.inl ⟨rfl, rfl⟩) rfl rfl fun ac H => ?_
        exact ⟨rfl, H.three rfl rfl rfl⟩
      | false =>
        refine sg_fa H (hfa0 _ _) rfl rfl rfl rfl fun ac H => ?_
        refine sg_load H hld0 rfl rfl rfl rfl fun ac H => ?_
        refine sg_bin H (hy6 _) rfl rfl rfl rfl fun ac H => ?_
        refine sg_move H rfl rfl rfl rfl fun ac H => ?_
        cases y6 with
        | true =>
          refine sg_fa H (hfa1 _ _) rfl rfl rfl rfl fun ac H => ?_
          refine sg_load H hld1 rfl rfl rfl rfl fun ac H => ?_
          refine sg_bin H (hy7 _) rfl rfl rfl rfl fun ac H => ?_
          refine sg_and H rfl rfl rfl (c := (true && y7)) (.inr ⟨rfl, rfl⟩) rfl rfl fun ac H => ?_
          refine sg_or H rfl rfl rfl (c := (false || (true && y7))) (.inr ⟨rfl, rfl⟩) rfl rfl fun ac H => ?_
          exact ⟨rfl, H.three rfl rfl rfl⟩
        | false =>
          refine sg_skip H rfl rfl rfl rfl fun ac H => ?_
          refine sg_skip H rfl rfl rfl rfl fun ac H => ?_
          refine sg_skip H rfl rfl rfl rfl fun ac H => ?_
          refine sg_and H rfl rfl rfl (c := (false && y7)) (.inl ⟨rfl, rfl⟩) rfl rfl fun ac H => ?_
          refine sg_or H rfl rfl rfl (c := (false || (false && y7))) (.inr ⟨rfl, rfl⟩) rfl rfl fun ac H => ?_
          exact ⟨rfl, H.three rfl rfl rfl⟩
    rintro ac w' ⟨rfl, H⟩
    try simp only [List.drop_succ_cons, List.drop_zero]
    obtain ⟨d4, Ed4⟩ : ∃ z : Bool, (d3 || (y6 && y7)) = z := ⟨_, rfl⟩
    rw [Ed4] at H
    refine wpList_cut 15 (fun ac' w' => W1 = w' ∧ Holds 166 [(1, .pointer (some ⟨w.heap.size, 0, none⟩)), (3, .string U), (139, .bool (d4 || (y8 && (y9 || y10))))] ac') ?_ ?_
    · skip
      refine sg_move H rfl rfl rfl rfl fun ac H => ?_
      cases d4 with
      | true =>
        refine sg_skip H rfl rfl rfl rfl fun ac H => ?_
        refine sg_skip H rfl rfl rfl rfl fun ac H => ?_
        refine sg_skip H rfl rfl rfl rfl fun ac H => ?_
        refine sg_skip H rfl rfl rfl rfl fun ac H => ?_
        refine sg_skip H rfl rfl rfl rfl fun ac H => ?_
        refine sg_skip H rfl rfl rfl rfl fun ac H => ?_
        refine sg_skip H rfl rfl rfl rfl fun ac H => ?_
        refine sg_skip H rfl rfl rfl rfl fun ac H => ?_
        refine sg_skip H rfl rfl rfl rfl fun ac H => ?_
        refine sg_skip H rfl rfl rfl rfl fun ac H => ?_
        refine sg_skip H rfl rfl rfl rfl fun ac H => ?_
        refine sg_skip H rfl rfl rfl rfl fun ac H => ?_
        refine sg_skip H rfl rfl rfl rfl fun ac H => ?_
        refine sg_or H rfl rfl rfl (c := (true || (y8 && (y9 || y10)))) (.inl ⟨rfl, rfl⟩) rfl rfl fun ac H => ?_
        exact ⟨rfl, H.three rfl rfl rfl⟩
      | false =>
        refine sg_fa H (hfa0 _ _) rfl rfl rfl rfl fun ac H => ?_
        refine sg_load H hld0 rfl rfl rfl rfl fun ac H => ?_
        refine sg_bin H (hy8 _) rfl rfl rfl rfl fun ac H => ?_
        refine sg_move H rfl rfl rfl rfl fun ac H => ?_
        cases y8 with
        | true =>
          refine sg_fa H (hfa1 _ _) rfl rfl rfl rfl fun ac H => ?_
          refine sg_load H hld1 rfl rfl rfl rfl fun ac H => ?_
          refine sg_bin H (hy9 _) rfl rfl rfl rfl fun ac H => ?_
          refine sg_move H rfl rfl rfl rfl fun ac H => ?_
          cases y9 with
          | true =>
            refine sg_skip H rfl rfl rfl rfl fun ac H => ?_
            refine sg_skip H rfl rfl rfl rfl fun ac H => ?_
            refine sg_skip H rfl rfl rfl rfl fun ac H => ?_
            refine sg_or H rfl rfl rfl (c := (true || y10)) (.inl ⟨rfl, rfl⟩) rfl rfl fun ac H => ?_
            refine sg_and H rfl rfl rfl (c := (true && (true || y10))) (.inr ⟨rfl, rfl⟩) rfl rfl fun ac H => ?_
            refine sg_or H rfl rfl rfl (c := (false || (true && (true || y10)))) (.inr ⟨rfl, rfl⟩) rfl rfl fun ac H => ?_
            exact ⟨rfl, H.three rfl rfl rfl⟩
          | false =>
            refine sg_fa H (hfa1 _ _) rfl rfl rfl rfl fun ac H => ?_
            refine sg_load H hld1 rfl rfl rfl rfl fun ac H => ?_
            refine sg_bin H (hy10 _) rfl rfl rfl rfl fun ac H => ?_
            refine sg_or H rfl rfl rfl (c := (false || y10)) (.inr ⟨rfl, rfl⟩) rfl rfl fun ac H => ?_
            refine sg_and H rfl rfl rfl (c := (true && (false || y10))) (.inr ⟨rfl, rfl⟩) rfl rfl fun ac H => ?_
            refine sg_or H rfl rfl rfl (c := (false || (true && (false || y10)))) (.inr ⟨rfl, rfl⟩) rfl rfl fun ac H => ?_
            exact ⟨rfl, H.three rfl rfl rfl⟩
        | false =>
          refine sg_skip H rfl rfl rfl rfl fun ac H => ?_
          refine sg_skip H rfl rfl rfl rfl fun ac H => ?_
          refine sg_skip H rfl rfl rfl rfl fun ac H => ?_
          refine sg_skip H rfl rfl rfl rfl fun ac H => ?_
          refine sg_skip H rfl rfl rfl rfl fun ac H => ?_
          refine sg_skip H rfl rfl rfl rfl fun ac H => ?_
          refine sg_skip H rfl rfl rfl rfl fun ac H => ?_
          refine sg_skip H rfl rfl rfl rfl fun ac H => ?_
          refine sg_and H rfl rfl rfl (c := (false && (y9 || y10))) (.inl ⟨rfl, rfl⟩) rfl rfl fun ac H => ?_
          refine sg_or H rfl rfl rfl (c := (false || (false && (y9 || y10)))) (.inr ⟨rfl, rfl⟩) rfl rfl fun ac H => ?_
          exact ⟨rfl, H.three rfl rfl rfl⟩
    rintro ac w' ⟨rfl, H⟩
    try simp only [List.drop_succ_cons, List.drop_zero]
    obtain ⟨d5, Ed5⟩ : ∃ z : Bool, (d4 || (y8 && (y9 || y10))) = z := ⟨_, rfl⟩
    rw [Ed5] at H
    refine wpList_cut 15 (fun ac' w' => W1 = w' ∧ Holds 166 [(1, .pointer (some ⟨w.heap.size, 0, none⟩)), (3, .string U), (154, .bool (d5 || (y11 && (y12 || y13))))] ac') ?_ ?_
    · skip
      refine sg_move H rfl rfl rfl rfl fun ac H => ?_
      cases d5 with
      | true =>
        refine sg_skip H rfl rfl rfl rfl fun ac H => ?_
        refine sg_skip H rfl rfl rfl rfl fun ac H => ?_
        refine sg_skip H rfl rfl rfl rfl fun ac H => ?_
        refine sg_skip H rfl rfl rfl rfl fun ac H => ?_
        refine sg_skip H rfl rfl rfl rfl fun ac H => ?_
        refine sg_skip H rfl rfl rfl rfl fun ac H => ?_
        refine sg_skip H rfl rfl rfl rfl fun ac H => ?_
        refine sg_skip H rfl rfl rfl rfl fun ac H => ?_
        refine sg_skip H rfl rfl rfl rfl fun ac H => ?_
        refine sg_skip H rfl rfl rfl rfl fun ac H => ?_
        refine sg_skip H rfl rfl rfl rfl fun ac H => ?_
        refine sg_skip H rfl rfl rfl rfl fun ac H => ?_
        refine sg_skip H rfl rfl rfl rfl fun ac H => ?_
        refine sg_or H rfl rfl rfl (c := (true || (y11 && (y12 || y13)))) (.inl ⟨rfl, rfl⟩) rfl rfl fun ac H => ?_
        exact ⟨rfl, H.three rfl rfl rfl⟩
      | false =>
        refine sg_fa H (hfa0 _ _) rfl rfl rfl rfl fun ac H => ?_
        refine sg_load H hld0 rfl rfl rfl rfl fun ac H => ?_
        refine sg_bin H (hy11 _) rfl rfl rfl rfl fun ac H => ?_
        refine sg_move H rfl rfl rfl rfl fun ac H => ?_
        cases y11 with
        | true =>
          refine sg_fa H (hfa6 _ _) rfl rfl rfl rfl fun ac H => ?_
          refine sg_load H hld6 rfl rfl rfl rfl fun ac H => ?_
          refine sg_bin H (hy12 _) rfl rfl rfl rfl fun ac H => ?_
          refine sg_move H rfl rfl rfl rfl fun ac H => ?_
          cases y12 with
          | true =>
            refine sg_skip H rfl rfl rfl rfl fun ac H => ?_
            refine sg_skip H rfl rfl rfl rfl fun ac H => ?_
            refine sg_skip H rfl rfl rfl rfl fun ac H => ?_
            refine sg_or H rfl rfl rfl (c := (true || y13)) (.inl ⟨rfl, rfl⟩) rfl rfl fun ac H => ?_
            refine sg_and H rfl rfl rfl (c := (true && (true || y13))) (.inr ⟨rfl, rfl⟩) rfl rfl fun ac H => ?_
            refine sg_or H rfl rfl rfl (c := (false || (true && (true || y13)))) (.inr ⟨rfl, rfl⟩) rfl rfl fun ac H => ?_
            exact ⟨rfl, H.three rfl rfl rfl⟩
          | false =>
            refine sg_fa H (hfa6 _ _) rfl rfl rfl rfl fun ac H => ?_
            refine sg_load H hld6 rfl rfl rfl rfl fun ac H => ?_
            refine sg_bin H (hy13 _) rfl rfl rfl rfl fun ac H => ?_
            refine sg_or H rfl rfl rfl (c := (false || y13)) (.inr ⟨rfl, rfl⟩) rfl rfl fun ac H => ?_
            refine sg_and H rfl rfl rfl (c := (true && (false || y13))) (.inr ⟨rfl, rfl⟩) rfl rfl fun ac H => ?_
            refine sg_or H rfl rfl rfl (c := (false || (true && (false || y13)))) (.inr ⟨rfl, rfl⟩) rfl rfl fun ac H => ?_
            exact ⟨rfl, H.three rfl rfl rfl⟩
        | false =>
          refine sg_skip H rfl rfl rfl rfl fun ac H => ?_
          refine sg_skip H rfl rfl rfl rfl fun ac H => ?_
          refine sg_skip H rfl rfl rfl rfl fun ac H => ?_
          refine sg_skip H rfl rfl rfl rfl fun ac H => ?_
          refine sg_skip H rfl rfl rfl rfl fun ac H => ?_
          refine sg_skip H rfl rfl rfl rfl fun ac H => ?_
          refine sg_skip H rfl rfl rfl rfl fun ac H => ?_
          refine sg_skip H rfl rfl rfl rfl fun ac H => ?_
          refine sg_and H rfl rfl rfl (c := (false && (y12 || y13))) (.inl ⟨rfl, rfl⟩) rfl rfl fun ac H => ?_
          refine sg_or H rfl rfl rfl (c := (false || (false && (y12 || y13)))) (.inr ⟨rfl, rfl⟩) rfl rfl fun ac H => ?_
          exact ⟨rfl, H.three rfl rfl rfl⟩
    rintro ac w' ⟨rfl, H⟩
    try simp only [List.drop_succ_cons, List.drop_zero]
    obtain ⟨d6, Ed6⟩ : ∃ z : Bool, (d5 || (y11 && (y12 || y13))) = z := ⟨_, rfl⟩
    rw [Ed6] at H
    have hd6 : d6 = true ↔ ¬ inZ ⟨k, s, u, p, m, g, v, a, t⟩ := by
      rw [← HIN.out hbz, ← Ed6, ← Ed5, ← Ed4, ← Ed3, ← Ed2, ← Ed1, ← Y1, ← Y2, ← Y3, ← Y4, ← Y5, ← Y6, ← Y7, ← Y8, ← Y9, ← Y10, ← Y11, ← Y12, ← Y13]
      simp
    refine wpList_nil ?_
    go_step
    go_step
    cases d6 with
    | true =>
      have HC : Hid (checkF ⟨k, s, u, p, m, g, v, a, t⟩ = 5) := Lib.hid (by rw [HCK.out]; rw [if_neg (fun h => h hbz)]; exact if_pos (hd6.1 rfl))
      refine wp_cond (ev H rfl) ?_
      simp only [↓reduceIte]
      refine wp_seq ?_
      refine wp_region_lit ?_
      refine sg_assignc H rfl rfl rfl fun ac H => ?_
      refine wpList_nil ?_
      refine wp_ret ?_
      simp only [Exit.then]
      refine bodyPost_ret ((results_tmp rfl _ _ _).trans (congrArg (fun x => Result.ok x W1) (ev H (t := 2) rfl))) H.defers ?_
      exact ⟨ret_int HC.out.symm, HBW.out⟩
    | false =>
      refine wp_cond (ev H rfl) ?_
      simp only [Bool.false_eq_true, ↓reduceIte]
      refine wp_skip ?_
      simp only [Exit.then]
      go_step
      go_step
      go_step
      have hbi : inZ ⟨k, s, u, p, m, g, v, a, t⟩ := Classical.byContradiction fun h => Bool.noConfusion (hd6.2 h)
      refine wp_region_lit ?_
      refine sg_fa H (hfa8 _ _) rfl rfl rfl rfl fun ac H => ?_
      refine sg_load H hld8 rfl rfl rfl rfl fun ac H => ?_
      refine sg_len H Try.underlying9 rfl rfl rfl rfl fun ac H => ?_
      refine sg_bin H (hy14 _) rfl rfl rfl rfl fun ac H => ?_
      refine wpList_nil ?_
      go_step
      go_step
      cases y14 with
      | true =>
        have HC : Hid (checkF ⟨k, s, u, p, m, g, v, a, t⟩ = 2) := Lib.hid (by rw [HCK.out]; rw [if_neg (fun h => h hbz), if_neg (fun h => h hbi)]; exact if_pos (by have := of_decide_eq_true Y14; show 60 < t.size; omega))
        refine wp_cond (ev H rfl) ?_
        simp only [↓reduceIte]
        refine wp_seq ?_
        refine wp_region_lit ?_
        refine sg_assignc H rfl rfl rfl fun ac H => ?_
        refine wpList_nil ?_
        refine wp_ret ?_
        simp only [Exit.then]
        refine bodyPost_ret ((results_tmp rfl _ _ _).trans (congrArg (fun x => Result.ok x W1) (ev H (t := 2) rfl))) H.defers ?_
        exact ⟨ret_int HC.out.symm, HBW.out⟩
      | false =>
        refine wp_cond (ev H rfl) ?_
        simp only [Bool.false_eq_true, ↓reduceIte]
        refine wp_skip ?_
        simp only [Exit.then]
        go_step
        go_step
        go_step
        have hts : ¬ 60 < t.size := by have := of_decide_eq_false Y14; omega
        refine wp_region_lit ?_
        replace H := H.two (t1 := 1) (t2 := 3) rfl rfl
        refine wpList_cut 7 (fun ac' w' => W1 = w' ∧ Holds 166 [(1, .pointer (some ⟨w.heap.size, 0, none⟩)), (3, .string U), (165, .bool (zg && zt))] ac') ?_ ?_
        · skip
          refine sg_fa H (hfa5 _ _) rfl rfl rfl rfl fun ac H => ?_
          refine sg_load H hld5 rfl rfl rfl rfl fun ac H => ?_
          refine sg_move H rfl rfl rfl rfl fun ac H => ?_
          cases zg with
          | true =>
            refine sg_fa H (hfa8 _ _) rfl rfl rfl rfl fun ac H => ?_
            refine sg_load H hld8 rfl rfl rfl rfl fun ac H => ?_
            refine sg_bin H (hzt _) rfl rfl rfl rfl fun ac H => ?_
            refine sg_and H rfl rfl rfl (c := (true && zt)) (.inr ⟨rfl, rfl⟩) rfl rfl fun ac H => ?_
            exact ⟨rfl, H.three rfl rfl rfl⟩
          | false =>
            refine sg_skip H rfl rfl rfl rfl fun ac H => ?_
            refine sg_skip H rfl rfl rfl rfl fun ac H => ?_
            refine sg_skip H rfl rfl rfl rfl fun ac H => ?_
            refine sg_and H rfl rfl rfl (c := (false && zt)) (.inl ⟨rfl, rfl⟩) rfl rfl fun ac H => ?_
            exact ⟨rfl, H.three rfl rfl rfl⟩
        rintro ac w' ⟨rfl, H⟩
        try simp only [List.drop_succ_cons, List.drop_zero]
        obtain ⟨f1, Ef1⟩ : ∃ z : Bool, (zg && zt) = z := ⟨_, rfl⟩
        rw [Ef1] at H
        have hf1 : f1 = true ↔ (g = true ∧ t ≠ ⟨#[]⟩) := by
          rw [← Ef1, ← Zg, ← ZT]
          simp
        refine wpList_nil ?_
        go_step
        go_step
        cases f1 with
        | true =>
          have HC : Hid (checkF ⟨k, s, u, p, m, g, v, a, t⟩ = 3) := Lib.hid (by rw [HCK.out]; rw [if_neg (fun h => h hbz), if_neg (fun h => h hbi), if_neg hts]; exact if_pos (hf1.1 rfl))
          refine wp_cond (ev H rfl) ?_
          simp only [↓reduceIte]
          refine wp_seq ?_
          refine wp_region_lit ?_
          refine sg_assignc H rfl rfl rfl fun ac H => ?_
          refine wpList_nil ?_
          refine wp_ret ?_
          simp only [Exit.then]
          refine bodyPost_ret ((results_tmp rfl _ _ _).trans (congrArg (fun x => Result.ok x W1) (ev H (t := 2) rfl))) H.defers ?_
          exact ⟨ret_int HC.out.symm, HBW.out⟩
        | false =>
          refine wp_cond (ev H rfl) ?_
          simp only [Bool.false_eq_true, ↓reduceIte]
          refine wp_skip ?_
          simp only [Exit.then]
          go_step
          go_step
          go_step
          have HC : Hid (checkF ⟨k, s, u, p, m, g, v, a, t⟩ = 0) := Lib.hid (by rw [HCK.out, if_neg (fun h => h hbz), if_neg (fun h => h hbi), if_neg hts]; exact if_neg (fun h => Bool.noConfusion (hf1.2 h)))
          refine sg_assignc H rfl rfl rfl fun ac H => ?_
          refine wpList_nil ?_
          go_step
          go_step
          refine wp_ret ?_
          try simp only [Exit.then]
          refine bodyPost_ret ((results_tmp rfl _ _ _).trans (congrArg (fun x => Result.ok x W1) (ev H (t := 2) rfl))) H.defers ?_
          exact ⟨ret_int HC.out.symm, HBW.out⟩
set_option maxRecDepth 100000 in
set_option maxHeartbeats 2000000 in
/-- The document's Check, of whatever record. -/
theorem rcheck_any (r : R) (w : World) (hr : r.ok) :
    Calls Try.prog 31 #[.agg #[.int .i64 r.k, .int .i64 r.s, .int .i64 r.u, .int .i64 r.p, .int .i64 r.m, .bool r.g, .int .u64 r.v, .int .u64 r.a, .string r.t]] w fun x w' => x = .returned (.int .i64 (checkF r)) ∧ Below w.heap.size w w' := by
  obtain ⟨k, s, u, p, m, g, v, a, t⟩ := r
  have hb0 : Below w.heap.size w (w.alloc (.cells #[.int .i64 k, .int .i64 s, .int .i64 u, .int .i64 p, .int .i64 m, .bool g, .int .u64 v, .int .u64 a, .string t] 51)) := (Below.refl _ _).alloc (Nat.le_refl _) _
  have hrk : k < 1 ∨ 6 < k ∨ (1 ≤ k ∧ k ≤ 6) := by omega
  rcases hrk with h | h | ⟨h1, h6⟩
  · have HC : Hid (checkF ⟨k, s, u, p, m, g, v, a, t⟩ = 16) := Lib.hid (if_pos (.inl h))
    have HB0 := Lib.hid hb0
    clear hr hb0
    go_enter Try.func31, Try.ntmps31
    go_wp2_with fail
    go_ret
    exact ⟨ret_int HC.out.symm, HB0.out⟩
  · have HC : Hid (checkF ⟨k, s, u, p, m, g, v, a, t⟩ = 16) := Lib.hid (if_pos (.inr h))
    have HB0 := Lib.hid hb0
    have h2 : 1 ≤ k := by omega
    clear hr hb0
    go_enter Try.func31, Try.ntmps31
    go_wp2_with fail
    go_ret
    exact ⟨ret_int HC.out.symm, HB0.out⟩
  · exact rcheck_in k s u p m g v a t w hr h1 h6
end Go.Proofs.Ytpbdgfgjlccapaa.rw
