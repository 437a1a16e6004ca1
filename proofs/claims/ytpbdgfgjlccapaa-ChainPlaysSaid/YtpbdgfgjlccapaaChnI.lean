/-
  The walks of layer 12's law: the chapter's example.
-/
import Derived.Test.YtpbdgfgjlccapaaChnH
namespace Go.Proofs.Ytpbdgfgjlccapaa.cw
open Go.RowKit Go.Proofs.Ytpbdgfgjlccapaa.ba Go.Proofs.Ytpbdgfgjlccapaa.rp Go.Proofs.Ytpbdgfgjlccapaa.rw Go.Proofs.Ytpbdgfgjlccapaa.cp
set_option maxRecDepth 8000
set_option linter.unusedVariables false

set_option maxRecDepth 100000 in
set_option maxHeartbeats 2000000 in
theorem trim_none (p : Option Addr) (pa : Option Addr) (pn pc : Nat) (w : World) (hC : CP w p []) :
    Calls Try.prog 9 #[.pointer p, .slice pa pn pc] w fun e w' => e = .returned (.int .i64 0) ∧ Below w.heap.size w w' := by
  have hb0 : Below w.heap.size w (w.alloc (.cells #[.slice pa pn pc] 23)) := (Below.refl _ _).alloc (Nat.le_refl _) _
  have HL := Lib.hid (len_any p [] _ (hC.below hb0))
  clear hC
  go_enter Try.func9, Try.ntmps9
  go_wp2_with (go_at_call 14; ((with_reducible refine HL.out.mono ?_); rintro x w1 ⟨rfl, rfl⟩))
  go_ret
  exact ⟨rfl, hb0⟩

def exR : R := ⟨3, 0, 0, 0, 0, false, 0, 0, ⟨#[]⟩⟩
def exL : List V := [⟨2, false, exR⟩, ⟨5, true, zeroR⟩, ⟨7, false, exR⟩]
theorem ex_put : puts [] exL = (exL, 3, 0) := by kernel_rfl
theorem ex_at : atF exL 6 = (zeroR, false) := by kernel_rfl
theorem ex_trim : trimF exL [3] = [⟨2, false, exR⟩, ⟨7, false, exR⟩] := by kernel_rfl
theorem exR_ok : exR.ok := by constructor <;> first | (simp [exR]; done) | exact Nat.zero_le _
theorem exL_ok : ∀ v ∈ exL, v.ok := by
  have hz : zeroR.ok := by constructor <;> first | (simp [zeroR]; done) | exact Nat.zero_le _
  intro v hv
  simp [exL] at hv
  rcases hv with rfl | rfl | rfl
  · exact ⟨by simp, exR_ok⟩
  · exact ⟨by simp, hz⟩
  · exact ⟨by simp, exR_ok⟩

theorem PD.get {w0 w1 w2 : World} {base g : Nat} {q : Option Nat} {L : List V} (h : PD w1 w2 base g q L) (hb : Below w0.heap.size w0 w1) (hg : w0.heap.size ≤ g) (hq : ∀ j, q = some j → w0.heap.size ≤ j) :
    Below w0.heap.size w0 w2 ∧ ∃ q', CS w2 base g q' L ∧ ∀ j, q' = some j → w0.heap.size ≤ j := by
  obtain ⟨⟨q', hC, ho⟩, hk⟩ := h
  refine ⟨hk.below hb (fun j hj => hj.elim (fun e => e ▸ hg) (hq j)), q', hC, fun j hj => ?_⟩
  rcases ho with rfl | ho
  · exact hq j hj
  · exact Nat.le_trans hb.size (ho j hj)
theorem ex_gone : (exL.length : Int) - (([⟨2, false, exR⟩, ⟨7, false, exR⟩] : List V).length : Int) = 1 := rfl
theorem ex_new : newestF [⟨2, false, exR⟩, ⟨7, false, exR⟩] = 7 := rfl
theorem ex_live : liveF [⟨2, false, exR⟩, ⟨7, false, exR⟩] = true := rfl
theorem one_pin (w : World) (B : Nat) (hB : w.heap.size = B) (p : Int) : Lst .u64 (w.alloc (.cells #[.int .u64 p] 24)) (some ⟨B, 0, none⟩) [p] := by
  subst hB
  refine .inr ⟨w.heap.size, 0, rfl, fun i v hv => ?_⟩
  match i, hv with
  | 0, hv => cases hv; exact (Blk.new w _ _).cell 0
  | i + 1, hv => simp at hv
abbrev exC : Array Value := #[.int .u64 2, .bool false, .int .u8 3, .int .u8 0, .int .u8 0, .int .u8 0, .int .u8 0, .bool false, .int .u32 0, .int .u64 0, .string ⟨#[]⟩, .int .u64 5, .bool true, .int .u8 0, .int .u8 0, .int .u8 0, .int .u8 0, .int .u8 0, .bool false, .int .u32 0, .int .u64 0, .string ⟨#[]⟩, .int .u64 7, .bool false, .int .u8 3, .int .u8 0, .int .u8 0, .int .u8 0, .int .u8 0, .bool false, .int .u32 0, .int .u64 0, .string ⟨#[]⟩]
theorem ex_vl (w : World) (B : Nat) (hB : w.heap.size = B) : VL (w.alloc (.cells exC 43)) (some ⟨B, 0, none⟩) exL := by
  subst hB
  have h := fun i => (Blk.new w 43 exC).cell i
  refine .inr ⟨w.heap.size, 0, rfl, fun i f hf => ?_⟩
  match i, hf with
  | 0, hf => cases hf; exact ⟨h 0, h 1, h 2, h 3, h 4, h 5, h 6, h 7, h 8, h 9, h 10⟩
  | 1, hf => cases hf; exact ⟨h 11, h 12, h 13, h 14, h 15, h 16, h 17, h 18, h 19, h 20, h 21⟩
  | 2, hf => cases hf; exact ⟨h 22, h 23, h 24, h 25, h 26, h 27, h 28, h 29, h 30, h 31, h 32⟩
  | i + 3, hf => simp [exL] at hf
set_option maxRecDepth 100000 in
set_option maxHeartbeats 4000000 in
theorem known_any (w : World) : Calls Try.prog 12 #[] w fun e w' => e = .returned (.bool true) ∧ Below w.heap.size w w' := by
  go_enter Try.func12, Try.ntmps12
  go_wp2_with fail
  have hX := ex_vl ((w.alloc (.cells #[.slice none 0 0] 40)).alloc (.cells (#[.int .u8 exR.k, .int .u8 exR.s, .int .u8 exR.u, .int .u8 exR.p, .int .u8 exR.m, .bool exR.g, .int .u32 exR.v, .int .u64 exR.a, .string exR.t]) 30)) (w.heap.size + 1 + 1) (by simp)
  have hC : CS (((w.alloc (.cells #[.slice none 0 0] 40)).alloc (.cells (#[.int .u8 exR.k, .int .u8 exR.s, .int .u8 exR.u, .int .u8 exR.p, .int .u8 exR.m, .bool exR.g, .int .u32 exR.v, .int .u64 exR.a, .string exR.t]) 30)).alloc (.cells exC 43)) w.heap.size w.heap.size none [] :=
    ⟨.slice none 0 0, ((Blk.new w _ _).alloc _).alloc _, World.ownsRow_nil _ _ _ _, rfl⟩
  have hb3 : Below w.heap.size w (((w.alloc (.cells #[.slice none 0 0] 40)).alloc (.cells (#[.int .u8 exR.k, .int .u8 exR.s, .int .u8 exR.u, .int .u8 exR.p, .int .u8 exR.m, .bool exR.g, .int .u32 exR.v, .int .u64 exR.a, .string exR.t]) 30)).alloc (.cells exC 43)) := (((Below.refl _ _).alloc (Nat.le_refl _) _).alloc (by simp) _).alloc (by simp; omega) _
  have hp := put_any w.heap.size w.heap.size none (some ⟨w.heap.size + 1 + 1, 0, none⟩) 3 3 [] exL _ hX rfl exL_ok hC (by have := hb3.size; exact this) (by simp) (fun p hp => by cases hp; simp; omega)
  rw [ex_put] at hp
  refine hp.mono ?_
  rintro x w2 ⟨rfl, hD2⟩
  obtain ⟨hb2, q2, hC2, hq2⟩ := hD2.get hb3 (Nat.le_refl _) (fun j hj => by cases hj)
  have HA := Lib.hid (at_any (some ⟨w.heap.size, 0, none⟩) 6 exL w2 (hC2.cp (by decide)))
  rw [ex_at] at HA
  have HC2 := Lib.hid fun (W : World) (h : Below w2.heap.size w2 W) => (hC2.below h)
  have HQ2 := Lib.hid hq2
  have HB2 := Lib.hid fun (W : World) (h : Below w2.heap.size w2 W) => bthen hb2 h
  clear hX hC hb3 hp hD2 hb2 hC2 hq2
  go_wp2_with (go_at_call 10; ((with_reducible refine HA.out.mono ?_); rintro x w3 ⟨rfl, hb3⟩; have HB3 := Lib.hid hb3; clear hb3))
  have hb4 : Below w2.heap.size w2 ((w3.alloc (.cells (#[.int .u8 zeroR.k, .int .u8 zeroR.s, .int .u8 zeroR.u, .int .u8 zeroR.p, .int .u8 zeroR.m, .bool zeroR.g, .int .u32 zeroR.v, .int .u64 zeroR.a, .string zeroR.t]) 30)).alloc (.cells #[.int .u64 3] 24)) := (HB3.out.alloc HB3.out.size _).alloc (by simp; have := HB3.out.size; omega) _
  have hP := one_pin (w3.alloc (.cells (#[.int .u8 zeroR.k, .int .u8 zeroR.s, .int .u8 zeroR.u, .int .u8 zeroR.p, .int .u8 zeroR.m, .bool zeroR.g, .int .u32 zeroR.v, .int .u64 zeroR.a, .string zeroR.t]) 30)) (w3.heap.size + 1) (by simp) 3
  have ht := trim_any w.heap.size w.heap.size q2 (some ⟨w3.heap.size + 1, 0, none⟩) 1 1 exL [3] _ hP rfl (HC2.out _ hb4) (HB2.out _ hb4).size (by decide) (by decide) (by decide)
  rw [ex_trim, ex_gone] at ht
  refine ht.mono ?_
  rintro x w5 ⟨rfl, hD5⟩
  obtain ⟨hb5, q5, hC5, hq5⟩ := hD5.get (HB2.out _ hb4) (Nat.le_refl _) HQ2.out
  have HL := Lib.hid (len_any (some ⟨w.heap.size, 0, none⟩) _ w5 (hC5.cp (by decide)))
  have HN := Lib.hid (newest_any (some ⟨w.heap.size, 0, none⟩) _ w5 (hC5.cp (by decide)))
  have HV := Lib.hid fun (W : World) (h : Below w5.heap.size w5 W) => live_any (some ⟨w.heap.size, 0, none⟩) _ W ((hC5.below h).cp (by decide))
  rw [ex_new] at HN
  rw [ex_live] at HV
  have HB5 := Lib.hid hb5
  clear hb4 hP ht hD5 hb5 hC5 hq5 HC2 HB2 HQ2 HB3 HA
  go_wp2_with (first | (go_at_call 14; ((with_reducible refine HL.out.mono ?_); rintro x w6 ⟨rfl, rfl⟩)) | (go_at_call 11; ((with_reducible refine HN.out.mono ?_); rintro x w7 ⟨rfl, hb7⟩; have HB7 := Lib.hid hb7; clear hb7)) | (go_at_call 13; ((with_reducible refine (HV.out _ HB7.out).mono ?_); rintro x w8 ⟨rfl, hb8⟩)))
  go_ret
  exact ⟨rfl, bthen HB5.out (bthen HB7.out hb8)⟩
end Go.Proofs.Ytpbdgfgjlccapaa.cw
