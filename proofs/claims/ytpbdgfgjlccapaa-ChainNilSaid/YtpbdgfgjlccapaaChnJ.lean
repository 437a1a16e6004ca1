/-
  The walks of layer 12's law: ChainNil.
-/
import Derived.Test.YtpbdgfgjlccapaaChnI
namespace Go.Proofs.Ytpbdgfgjlccapaa.cw
open Go.RowKit Go.Proofs.Ytpbdgfgjlccapaa.ba Go.Proofs.Ytpbdgfgjlccapaa.rp Go.Proofs.Ytpbdgfgjlccapaa.rw Go.Proofs.Ytpbdgfgjlccapaa.cp
set_option maxRecDepth 8000
set_option linter.unusedVariables false

theorem cp_none (w : World) : CP w none [] := ⟨Nat.zero_le _, .inl ⟨rfl, rfl⟩⟩
set_option maxRecDepth 100000 in
set_option maxHeartbeats 4000000 in
theorem chainNil_any (v : V) (t : Int) (w : World) : Calls Try.prog 7 #[.agg #[.int .u64 v.a, .bool v.d, .int .u8 v.r.k, .int .u8 v.r.s, .int .u8 v.r.u, .int .u8 v.r.p, .int .u8 v.r.m, .bool v.r.g, .int .u32 v.r.v, .int .u64 v.r.a, .string v.r.t], .int .u64 t] w fun e w' => e = .returned (.bool true) ∧ Below w.heap.size w w' := by
  have hb0 : Below w.heap.size w ((w.alloc (.cells (#[.int .u64 v.a, .bool v.d, .int .u8 v.r.k, .int .u8 v.r.s, .int .u8 v.r.u, .int .u8 v.r.p, .int .u8 v.r.m, .bool v.r.g, .int .u32 v.r.v, .int .u64 v.r.a, .string v.r.t]) 43)).alloc (.cells (#[.int .u64 v.a, .bool v.d, .int .u8 v.r.k, .int .u8 v.r.s, .int .u8 v.r.u, .int .u8 v.r.p, .int .u8 v.r.m, .bool v.r.g, .int .u32 v.r.v, .int .u64 v.r.a, .string v.r.t]) 43)) := ((Below.refl _ _).alloc (Nat.le_refl _) _).alloc (by simp) _
  have HA := Lib.hid fun (W : World) => (at_any none t [] W (cp_none W))
  have HK := Lib.hid fun (W : World) => known_any W
  have HN := Lib.hid fun (W : World) => newest_any none [] W (cp_none W)
  have HV := Lib.hid fun (W : World) => live_any none [] W (cp_none W)
  have HT := Lib.hid fun (pa : Option Addr) (W : World) => trim_none none pa 1 1 W (cp_none W)
  have HL := Lib.hid fun (W : World) => len_any none [] W (cp_none W)
  rw [show atF [] t = (zeroR, false) from rfl] at HA
  rw [show newestF [] = 0 from rfl] at HN
  rw [show liveF [] = false from rfl] at HV
  rw [show ((([] : List V).length : Nat) : Int) = 0 from rfl] at HL
  go_enter Try.func7, Try.ntmps7
  go_wp2_with (first
    | (go_at_call 19; refine (put_nil _ _ _ _).mono ?_; rintro x w1 ⟨rfl, rfl⟩)
    | (go_at_call 10; refine (HA.out _).mono ?_; rintro x w2 ⟨rfl, hb2⟩; have HB2 := Lib.hid (bthen hb0 hb2); clear hb2)
    | (go_at_call 12; refine (HK.out _).mono ?_; rintro x w3 ⟨rfl, hb3⟩; have HB3 := Lib.hid hb3; clear hb3)
    | (go_at_call 11; refine (HN.out _).mono ?_; rintro x w4 ⟨rfl, hb4⟩; have HB4 := Lib.hid hb4; clear hb4)
    | (go_at_call 13; refine (HV.out _).mono ?_; rintro x w5 ⟨rfl, hb5⟩; have HB5 := Lib.hid hb5; clear hb5)
    | (go_at_call 9; refine (HT.out _ _).mono ?_; rintro x w6 ⟨rfl, hb6⟩; have HB6 := Lib.hid hb6; clear hb6)
    | (go_at_call 23; refine (list_nil _).mono ?_; rintro x w7 ⟨rfl, rfl⟩)
    | (go_at_call 14; refine (HL.out _).mono ?_; rintro x w8 ⟨rfl, rfl⟩))
  go_ret
  exact ⟨rfl, bthen (HB2.out.alloc HB2.out.size _) (bthen HB3.out (bthen HB4.out (bthen HB5.out (bthen ((Below.refl _ _).alloc (Nat.le_refl _) _) HB6.out))))⟩
end Go.Proofs.Ytpbdgfgjlccapaa.cw
