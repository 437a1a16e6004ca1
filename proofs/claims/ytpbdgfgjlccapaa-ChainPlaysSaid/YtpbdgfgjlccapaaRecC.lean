/-
  The walks of layer 10: are a record's numbers within; is it right.
-/
import Derived.Test.YtpbdgfgjlccapaaRecB
import Derived.Deep.RegionHeld3
namespace Go.Proofs.Ytpbdgfgjlccapaa.rw
open Go.RowKit Go.Proofs.Ytpbdgfgjlccapaa.ba Go.Proofs.Ytpbdgfgjlccapaa.rp
set_option maxRecDepth 8000
set_option linter.unusedVariables false

def inB (r : R) : Bool := decide (inZ r)
def bareB (r : R) : Bool := decide (bareZ r)
set_option maxRecDepth 100000 in
set_option maxHeartbeats 4000000 in
theorem within_any (r : R) (w : World) (hr : r.ok) (hk1 : 1 ≤ r.k) (hk6 : r.k ≤ 6) :
    Calls Try.prog 42 #[.agg #[.int .u8 r.k, .int .u8 r.s, .int .u8 r.u, .int .u8 r.p, .int .u8 r.m, .bool r.g, .int .u32 r.v, .int .u64 r.a, .string r.t]] w fun x w' => x = .returned (.bool (inB r)) ∧ Below w.heap.size w w' := by
  obtain ⟨k, s, u, p, m, g, v, a, t⟩ := r
  obtain ⟨_, ⟨s0, s1⟩, ⟨u0, u1⟩, ⟨p0, p1⟩, ⟨m0, m1⟩, ⟨v0, v1⟩, ⟨a0, a1⟩, t1⟩ := hr
  simp only at hk1 hk6 s0 s1 u0 u1 p0 p1 m0 m1 v0 v1 a0 a1 t1 ⊢
  have hkk : k = 1 ∨ k = 2 ∨ k = 3 ∨ k = 4 ∨ k = 5 ∨ k = 6 := by omega
  clear hk1 hk6 a1 t1
  rcases hkk with rfl | rfl | rfl | rfl | rfl | rfl
  · rcases Decidable.em (u < 16) with hc1 | hc1'
    · have hb : inB ⟨1, s, u, p, m, g, v, a, t⟩ = true := by simp [inB, inZ]; try omega
      rw [hb]
      clear hb
      go_enter Try.func42, Try.ntmps42
      go_wp2_with fail
      go_ret
      exact ⟨by first | rfl | exact ret_bool (by simp; try omega), (Below.refl _ _).alloc (Nat.le_refl _) _⟩
    · have hc1 : 16 ≤ u := by omega
      clear hc1'
      have hb : inB ⟨1, s, u, p, m, g, v, a, t⟩ = false := by simp [inB, inZ]; try omega
      rw [hb]
      clear hb
      go_enter Try.func42, Try.ntmps42
      go_wp2_with fail
      go_ret
      exact ⟨by first | rfl | exact ret_bool (by simp; try omega), (Below.refl _ _).alloc (Nat.le_refl _) _⟩
  · rcases Decidable.em (1 ≤ m) with hc2 | hc2'
    · rcases Decidable.em (m ≤ 63) with hc1 | hc1'
      · have hb : inB ⟨2, s, u, p, m, g, v, a, t⟩ = true := by simp [inB, inZ]; try omega
        rw [hb]
        clear hb
        go_enter Try.func42, Try.ntmps42
        go_wp2_with fail
        go_ret
        exact ⟨by first | rfl | exact ret_bool (by simp; try omega), (Below.refl _ _).alloc (Nat.le_refl _) _⟩
      · have hc1 : 63 < m := by omega
        clear hc1'
        have hb : inB ⟨2, s, u, p, m, g, v, a, t⟩ = false := by simp [inB, inZ]; try omega
        rw [hb]
        clear hb
        go_enter Try.func42, Try.ntmps42
        go_wp2_with fail
        go_ret
        exact ⟨by first | rfl | exact ret_bool (by simp; try omega), (Below.refl _ _).alloc (Nat.le_refl _) _⟩
    · have hc2 : m < 1 := by omega
      clear hc2'
      have hb : inB ⟨2, s, u, p, m, g, v, a, t⟩ = false := by simp [inB, inZ]; try omega
      rw [hb]
      clear hb
      go_enter Try.func42, Try.ntmps42
      go_wp2_with fail
      go_ret
      exact ⟨by first | rfl | exact ret_bool (by simp; try omega), (Below.refl _ _).alloc (Nat.le_refl _) _⟩
  · have hb : inB ⟨3, s, u, p, m, g, v, a, t⟩ = true := by simp [inB, inZ]; try omega
    rw [hb]
    clear hb
    go_enter Try.func42, Try.ntmps42
    go_wp2_with fail
    go_ret
    exact ⟨by first | rfl | exact ret_bool (by simp; try omega), (Below.refl _ _).alloc (Nat.le_refl _) _⟩
  · rcases Decidable.em (p < 4) with hc2 | hc2'
    · rcases Decidable.em (s ≤ 1) with hc1 | hc1'
      · have hb : inB ⟨4, s, u, p, m, g, v, a, t⟩ = true := by simp [inB, inZ]; try omega
        rw [hb]
        clear hb
        go_enter Try.func42, Try.ntmps42
        go_wp2_with fail
        go_ret
        exact ⟨by first | rfl | exact ret_bool (by simp; try omega), (Below.refl _ _).alloc (Nat.le_refl _) _⟩
      · have hc1 : 1 < s := by omega
        clear hc1'
        have hb : inB ⟨4, s, u, p, m, g, v, a, t⟩ = false := by simp [inB, inZ]; try omega
        rw [hb]
        clear hb
        go_enter Try.func42, Try.ntmps42
        go_wp2_with fail
        go_ret
        exact ⟨by first | rfl | exact ret_bool (by simp; try omega), (Below.refl _ _).alloc (Nat.le_refl _) _⟩
    · have hc2 : 4 ≤ p := by omega
      clear hc2'
      have hb : inB ⟨4, s, u, p, m, g, v, a, t⟩ = false := by simp [inB, inZ]; try omega
      rw [hb]
      clear hb
      go_enter Try.func42, Try.ntmps42
      go_wp2_with fail
      go_ret
      exact ⟨by first | rfl | exact ret_bool (by simp; try omega), (Below.refl _ _).alloc (Nat.le_refl _) _⟩
  · rcases Decidable.em (0 < v) with hc1 | hc1'
    · have hb : inB ⟨5, s, u, p, m, g, v, a, t⟩ = true := by simp [inB, inZ]; try omega
      rw [hb]
      clear hb
      go_enter Try.func42, Try.ntmps42
      go_wp2_with fail
      go_ret
      exact ⟨by first | rfl | exact ret_bool (by simp; try omega), (Below.refl _ _).alloc (Nat.le_refl _) _⟩
    · have hc1 : v ≤ 0 := by omega
      clear hc1'
      have hb : inB ⟨5, s, u, p, m, g, v, a, t⟩ = false := by simp [inB, inZ]; try omega
      rw [hb]
      clear hb
      go_enter Try.func42, Try.ntmps42
      go_wp2_with fail
      go_ret
      exact ⟨by first | rfl | exact ret_bool (by simp; try omega), (Below.refl _ _).alloc (Nat.le_refl _) _⟩
  · rcases Decidable.em (1 ≤ s) with hc4 | hc4'
    · rcases Decidable.em (s ≤ 5) with hc3 | hc3'
      · rcases Decidable.em (u < 16) with hc2 | hc2'
        · rcases Decidable.em (0 < v) with hc1 | hc1'
          · have hb : inB ⟨6, s, u, p, m, g, v, a, t⟩ = true := by simp [inB, inZ]; try omega
            rw [hb]
            clear hb
            go_enter Try.func42, Try.ntmps42
            go_wp2_with fail
            go_ret
            exact ⟨by first | rfl | exact ret_bool (by simp; try omega), (Below.refl _ _).alloc (Nat.le_refl _) _⟩
          · have hc1 : v ≤ 0 := by omega
            clear hc1'
            have hb : inB ⟨6, s, u, p, m, g, v, a, t⟩ = false := by simp [inB, inZ]; try omega
            rw [hb]
            clear hb
            go_enter Try.func42, Try.ntmps42
            go_wp2_with fail
            go_ret
            exact ⟨by first | rfl | exact ret_bool (by simp; try omega), (Below.refl _ _).alloc (Nat.le_refl _) _⟩
        · have hc2 : 16 ≤ u := by omega
          clear hc2'
          have hb : inB ⟨6, s, u, p, m, g, v, a, t⟩ = false := by simp [inB, inZ]; try omega
          rw [hb]
          clear hb
          go_enter Try.func42, Try.ntmps42
          go_wp2_with fail
          go_ret
          exact ⟨by first | rfl | exact ret_bool (by simp; try omega), (Below.refl _ _).alloc (Nat.le_refl _) _⟩
      · have hc3 : 5 < s := by omega
        clear hc3'
        have hb : inB ⟨6, s, u, p, m, g, v, a, t⟩ = false := by simp [inB, inZ]; try omega
        rw [hb]
        clear hb
        go_enter Try.func42, Try.ntmps42
        go_wp2_with fail
        go_ret
        exact ⟨by first | rfl | exact ret_bool (by simp; try omega), (Below.refl _ _).alloc (Nat.le_refl _) _⟩
    · have hc4 : s < 1 := by omega
      clear hc4'
      have hb : inB ⟨6, s, u, p, m, g, v, a, t⟩ = false := by simp [inB, inZ]; try omega
      rw [hb]
      clear hb
      go_enter Try.func42, Try.ntmps42
      go_wp2_with fail
      go_ret
      exact ⟨by first | rfl | exact ret_bool (by simp; try omega), (Below.refl _ _).alloc (Nat.le_refl _) _⟩
end Go.Proofs.Ytpbdgfgjlccapaa.rw
