/-
  The walk of the law RecordReads.
-/
import Derived.Test.YtaekpejpcafnkaaRecS
import Derived.Test.YtaekpejpcafnkaaMa
import Derived.Deep.RegionHeld3
namespace Go.Proofs.Ytaekpejpcafnkaa.rw
open Go.RowKit Go.Proofs.Ytaekpejpcafnkaa.ba Go.Proofs.Ytaekpejpcafnkaa.rp Go.Proofs.Ytaekpejpcafnkaa.dp Go.Proofs.Ytaekpejpcafnkaa.dw Go.Proofs.Ytaekpejpcafnkaa.wp Go.Proofs.Ytaekpejpcafnkaa.ww
set_option maxRecDepth 8000
set_option linter.unusedVariables false
attribute [local go_sem ↓] Go.wp_at_zero Go.wp_at_succ

theorem zR_ok : zR.ok := ⟨by decide, by decide, by decide, by decide, by decide, by decide, by decide, by decide⟩
theorem readF_rok {l : List Int} (hB : Bytes l) : (readF l).1.ok ∧ ((readF l).2.2 ≠ 0 → (readF l).2.1 = 0) := by
  by_cases h : (readF l).2.2 = 0
  · exact ⟨(readF_ok hB h).1, fun h2 => absurd h h2⟩
  · cases l with
    | nil => exact ⟨zR_ok, fun _ => rfl⟩
    | cons k l =>
      unfold readF at h ⊢
      simp only at h ⊢
      split
      · exact ⟨zR_ok, fun _ => rfl⟩
      · split
        · next h1 h2 => rw [if_neg h1, if_pos h2] at h; exact absurd rfl h
        · exact ⟨zR_ok, fun _ => rfl⟩
set_option maxHeartbeats 1000000 in
theorem run_eq_drec (r q : R) (W : World) : (Op.equalIn 10000 25 (.agg #[.int .i64 r.k, .int .i64 r.s, .int .i64 r.u, .int .i64 r.p, .int .i64 r.m, .bool r.g, .int .u64 r.v, .int .u64 r.a, .string r.t]) (.agg #[.int .i64 q.k, .int .i64 q.s, .int .i64 q.u, .int .i64 q.p, .int .i64 q.m, .bool q.g, .int .u64 q.v, .int .u64 q.a, .string q.t])).run Try.prog W = .ok (eqR r q) W := by
  have hu : Try.prog.underlying 25 = some (.struct (Try.prog.fieldsOf 25)) := by kernel_rfl
  have hs : Try.prog.stoodInHeld 25 = false := by kernel_rfl
  rw [run_equalIn_agg W 9999 _ _ _ hu hs]
  simp [go_sem]
  unfold eqR
  repeat' split
  all_goals simp_all
theorem eqR_self (r : R) : eqR r r = true := by simp [eqR]
theorem run_neq_drec (r : R) : ∀ W, (binOp .neq 25 (.agg #[.int .i64 r.k, .int .i64 r.s, .int .i64 r.u, .int .i64 r.p, .int .i64 r.m, .bool r.g, .int .u64 r.v, .int .u64 r.a, .string r.t]) (.agg #[.int .i64 r.k, .int .i64 r.s, .int .i64 r.u, .int .i64 r.p, .int .i64 r.m, .bool r.g, .int .u64 r.v, .int .u64 r.a, .string r.t])).run Try.prog W = .ok (.bool false) W := by
  intro W
  rw [run_neq_struct, run_eq_drec r r W, eqR_self]
  rfl
theorem bdrx2 {B : Nat} {w w' : World} (h : Below B w w') : Below B w w'.drew := ⟨h.os, h.tape, h.output, h.size, h.block⟩
def Nine (W : World) (g : Nat) (r : R) : Prop := W.cell? ⟨g, 0, none⟩ = some (.int .u8 r.k) ∧ W.cell? ⟨g, 1, none⟩ = some (.int .u8 r.s) ∧ W.cell? ⟨g, 2, none⟩ = some (.int .u8 r.u) ∧ W.cell? ⟨g, 3, none⟩ = some (.int .u8 r.p) ∧ W.cell? ⟨g, 4, none⟩ = some (.int .u8 r.m) ∧ W.cell? ⟨g, 5, none⟩ = some (.bool r.g) ∧ W.cell? ⟨g, 6, none⟩ = some (.int .u32 r.v) ∧ W.cell? ⟨g, 7, none⟩ = some (.int .u64 r.a) ∧ W.cell? ⟨g, 8, none⟩ = some (.string r.t)
set_option maxRecDepth 100000 in
set_option maxHeartbeats 4000000 in
/-- The law behind the cut: of the first m bytes. -/
theorem recordReads_at (a : Option Addr) (len cap m : Nat) (l : List Int) (w : World) (hm : m ≤ 150) (hml : m ≤ len) (hlc : len ≤ cap) (hcm : cap ≤ maxLen) (hlen : l.length = m) (hL : Lst .u8 w a l) (hB : Bytes l)
    (hmin : ∀ W, (Builtin.min_ #[3, 3] 3 #[.int .i64 (len : Int), .int .i64 150]).run Try.prog W = .ok (.int .i64 (m : Int)) W) :
    Calls Try.prog 3 #[.slice a len cap] w fun x w' => x = .returned (.bool true) ∧ Below w.heap.size w w' := by
  obtain ⟨q, N, E, hq⟩ : ∃ q N E, readF l = (q, N, E) := ⟨_, _, _, rfl⟩
  have hR1 := Lib.hid fun (W : World) (hb : Below w.heap.size w W) => dread_any a m cap l W hlen (by omega) (by omega) hcm (hL.below hb) hB
  have hR2 := Lib.hid fun (W : World) (hb : Below w.heap.size w W) => read_any a m cap l W hlen (by omega) (hL.below hb) (fun e => by
    rcases hL with h | ⟨b, off, h, _⟩
    · exact h
    · rw [e] at h; cases h) hB
  have hrok := readF_rok hB
  have hfw := read_fwd hB
  have hok := readF_ok hB
  rw [hq] at hR1 hR2 hrok hfw hok
  have HR1 : Hid (∀ W : World, Below w.heap.size w W → Calls Try.prog 7 #[.slice a m cap] W fun x w' => x = .returned (.tuple #[.agg #[.int .i64 q.k, .int .i64 q.s, .int .i64 q.u, .int .i64 q.p, .int .i64 q.m, .bool q.g, .int .u64 q.v, .int .u64 q.a, .string q.t], .int .i64 N, .int .i64 E]) ∧ Below W.heap.size W w') := Lib.hid hR1.out
  have HR2 : Hid (∀ W : World, Below w.heap.size w W → Calls Try.prog 8 #[.slice a m cap] W fun x w' => x = .returned (.tuple #[.agg #[.int .u8 q.k, .int .u8 q.s, .int .u8 q.u, .int .u8 q.p, .int .u8 q.m, .bool q.g, .int .u32 q.v, .int .u64 q.a, .string q.t], .int .i64 N, .int .i64 E]) ∧ Below W.heap.size W w') := Lib.hid hR2.out
  have HOf := Lib.hid fun (W : World) => of_any q W hrok.1
  have hneq := run_neq_drec q
  have hb0 : Below w.heap.size w w := Below.refl _ _
  have HB0 := Lib.hid hb0
  have HL := Lib.hid hL
  have HLen := Lib.hid hlen
  have hm0 : (0 : Int) ≤ (m : Int) := Int.natCast_nonneg _
  have hmc : (m : Int) ≤ (cap : Int) := by omega
  clear hR1 hR2 hq hb0 hL hlen
  by_cases hE : E = 0
  · subst hE
    obtain ⟨hck, henc⟩ := hfw rfl
    obtain ⟨hqok, hN1, hN2⟩ := hok rfl
    simp only at hck henc hqok hN1 hN2
    obtain ⟨n, rfl⟩ := Int.eq_ofNat_of_zero_le (show 0 ≤ N by omega)
    rw [Int.toNat_natCast] at henc
    have hnl : n ≤ m := by have := HLen.out; omega
    have HBy : Hid (∀ W : World, Calls Try.prog 11 #[.slice (some ⟨W.heap.size, 0, none⟩) 1 1] (W.alloc (.cells (#[.int .u8 q.k, .int .u8 q.s, .int .u8 q.u, .int .u8 q.p, .int .u8 q.m, .bool q.g, .int .u32 q.v, .int .u64 q.a, .string q.t]) 30)) fun x w' => ∃ a4 c4, x = .returned (.tuple #[.slice a4 (encR q).length c4, .int .i64 0]) ∧ Lst .u8 w' a4 (encR q) ∧ Below W.heap.size W w') :=
      Lib.hid fun W => (bytes_one q W hqok).mono fun x w' ⟨a4, c4, h1, _, _, h2, _, h3⟩ => by
        rw [recF_one, if_pos hck] at h1 h2
        exact ⟨a4, c4, h1, h2, h3⟩
    have hel := encR_le q (right_parts hck).2.2
    have HSm : Hid (∀ (W : World) (a4 : Option Addr) (c4 : Nat), Below w.heap.size w W → Lst .u8 W a4 (encR q) → Calls Try.prog 12 #[.slice a4 (encR q).length c4, .slice a n cap] W fun x w' => x = .returned (.bool true) ∧ Below W.heap.size W w') :=
      Lib.hid fun W a4 c4 hb hL4 => by
        have := same_any a4 a c4 cap (encR q) (l.take n) W (by omega) (by simp; omega) hL4 ((HL.out.take n).below hb)
        rw [List.length_take, HLen.out, Nat.min_eq_left hnl] at this
        exact this.mono fun x w' ⟨h1, h2⟩ => ⟨by rw [h1, decide_eq_true henc], h2⟩
    have hn0 : (0 : Int) ≤ (n : Int) := Int.natCast_nonneg _
    have hnc : (n : Int) ≤ (cap : Int) := by omega
    clear hfw hok hrok hck henc hN1 hN2 hqok hel
    go_enter Try.func3, Try.ntmps3
    go_wp2_with
      (first
        | (go_at_call 7; ((with_reducible refine (HR1.out _ HB0.out).mono ?_); rintro x W1 ⟨rfl, hb1⟩; have HB1 := Lib.hid (bthen (bthen HB0.out hb1) (box_below W1 (.cells (dcells q) 25))); clear hb1))
        | (go_at_call 8; ((refine (HR2.out _ HB1.out).mono ?_); rintro x W2 ⟨rfl, hb2⟩; have HB2 := Lib.hid hb2; clear hb2))
        | fail)
    have HX6 := Lib.hid (Blk.new W2 30 (cellsOf q))
    have HX3 := Lib.hid (((Blk.new W1 25 (dcells q)).below HB2.out).alloc (.cells (cellsOf q) 30))
    have HBX := Lib.hid (bthen (bthen HB1.out HB2.out) (box_below W2 (.cells (cellsOf q) 30)))
    generalize hX : (W2.alloc (.cells (#[.int .u8 q.k, .int .u8 q.s, .int .u8 q.u, .int .u8 q.p, .int .u8 q.m, .bool q.g, .int .u32 q.v, .int .u64 q.a, .string q.t]) 30)) = X at *
    have hS : ∀ Y, Below X.heap.size X Y → (Y.cell? ⟨W2.heap.size, 0, none⟩ = some (.int .u8 q.k) ∧ Y.cell? ⟨W2.heap.size, 1, none⟩ = some (.int .u8 q.s) ∧ Y.cell? ⟨W2.heap.size, 2, none⟩ = some (.int .u8 q.u) ∧ Y.cell? ⟨W2.heap.size, 3, none⟩ = some (.int .u8 q.p) ∧ Y.cell? ⟨W2.heap.size, 4, none⟩ = some (.int .u8 q.m) ∧ Y.cell? ⟨W2.heap.size, 5, none⟩ = some (.bool q.g) ∧ Y.cell? ⟨W2.heap.size, 6, none⟩ = some (.int .u32 q.v) ∧ Y.cell? ⟨W2.heap.size, 7, none⟩ = some (.int .u64 q.a) ∧ Y.cell? ⟨W2.heap.size, 8, none⟩ = some (.string q.t)) ∧ (Y.cell? ⟨W1.heap.size, 0, none⟩ = some (.int .i64 q.k) ∧ Y.cell? ⟨W1.heap.size, 1, none⟩ = some (.int .i64 q.s) ∧ Y.cell? ⟨W1.heap.size, 2, none⟩ = some (.int .i64 q.u) ∧ Y.cell? ⟨W1.heap.size, 3, none⟩ = some (.int .i64 q.p) ∧ Y.cell? ⟨W1.heap.size, 4, none⟩ = some (.int .i64 q.m) ∧ Y.cell? ⟨W1.heap.size, 5, none⟩ = some (.bool q.g) ∧ Y.cell? ⟨W1.heap.size, 6, none⟩ = some (.int .u64 q.v) ∧ Y.cell? ⟨W1.heap.size, 7, none⟩ = some (.int .u64 q.a) ∧ Y.cell? ⟨W1.heap.size, 8, none⟩ = some (.string q.t)) := fun Y hb => ⟨nine_cells (by have := HX6.out; unfold cellsOf at this; rw [hX] at this; exact this.below hb), (dz_cells (r := q) (by have := HX3.out; unfold cellsOf at this; rw [hX] at this; exact this.below hb)).1⟩
    have hBX : Below w.heap.size w X := by have := HBX.out; unfold cellsOf at this; rw [hX] at this; exact this
    obtain ⟨⟨c0, c1, c2, c3, c4, c5, c6, c7, c8⟩, ⟨d0, d1, d2, d3, d4, d5, d6, d7, d8⟩⟩ := hS X.drew (bx0 X)
    have HS2 := Lib.hid hS
    have hbx : Below X.heap.size X X.drew := bx0 X
    clear hS hX HX6 HX3 HBX
    go_region_held3 (fun w' => (w'.cell? ⟨W2.heap.size, 0, none⟩ = some (.int .u8 q.k) ∧ w'.cell? ⟨W2.heap.size, 1, none⟩ = some (.int .u8 q.s) ∧ w'.cell? ⟨W2.heap.size, 2, none⟩ = some (.int .u8 q.u) ∧ w'.cell? ⟨W2.heap.size, 3, none⟩ = some (.int .u8 q.p) ∧ w'.cell? ⟨W2.heap.size, 4, none⟩ = some (.int .u8 q.m) ∧ w'.cell? ⟨W2.heap.size, 5, none⟩ = some (.bool q.g) ∧ w'.cell? ⟨W2.heap.size, 6, none⟩ = some (.int .u32 q.v) ∧ w'.cell? ⟨W2.heap.size, 7, none⟩ = some (.int .u64 q.a) ∧ w'.cell? ⟨W2.heap.size, 8, none⟩ = some (.string q.t)) ∧ (w'.cell? ⟨W1.heap.size, 0, none⟩ = some (.int .i64 q.k) ∧ w'.cell? ⟨W1.heap.size, 1, none⟩ = some (.int .i64 q.s) ∧ w'.cell? ⟨W1.heap.size, 2, none⟩ = some (.int .i64 q.u) ∧ w'.cell? ⟨W1.heap.size, 3, none⟩ = some (.int .i64 q.p) ∧ w'.cell? ⟨W1.heap.size, 4, none⟩ = some (.int .i64 q.m) ∧ w'.cell? ⟨W1.heap.size, 5, none⟩ = some (.bool q.g) ∧ w'.cell? ⟨W1.heap.size, 6, none⟩ = some (.int .u64 q.v) ∧ w'.cell? ⟨W1.heap.size, 7, none⟩ = some (.int .u64 q.a) ∧ w'.cell? ⟨W1.heap.size, 8, none⟩ = some (.string q.t))) (first | (refine ⟨⟨?_, ?_, ?_, ?_, ?_, ?_, ?_, ?_, ?_⟩, ⟨?_, ?_, ?_, ?_, ?_, ?_, ?_, ?_, ?_⟩⟩ <;> with_reducible assumption) | fail)
      (first
        | (go_at_call 9; ((with_reducible refine (HOf.out _).mono ?_); rintro x W3 ⟨rfl, hb3⟩; have hb9 := bthen hbx hb3; obtain ⟨⟨e0, e1, e2, e3, e4, e5, e6, e7, e8⟩, ⟨f0, f1, f2, f3, f4, f5, f6, f7, f8⟩⟩ := HS2.out _ hb9))
        | fail)
    all_goals
      have HBW := Lib.hid (bthen hBX hb9)
      clear hb9 hb3 hbx hBX
      go_wp2_with
        (first
          | (go_at_call 11; ((with_reducible refine (HBy.out _).mono ?_); rintro x W4 ⟨a4, c4, rfl, hL4, hb4⟩; have HL4 := Lib.hid hL4; have HB4 := Lib.hid (bthen HBW.out hb4); clear hL4 hb4))
          | (go_at_call 10; ((with_reducible refine (known_any _).mono ?_); rintro x W5 ⟨rfl, hb5⟩; have HB5 := Lib.hid (bthen HB4.out hb5); have HL5 := Lib.hid (HL4.out.below hb5); clear hb5))
          | (go_at_call 12; ((with_reducible refine (HSm.out _ _ _ HB5.out HL5.out).mono ?_); rintro x W6 ⟨rfl, hb6⟩))
          | fail)
      go_ret
      exact ⟨rfl, bthen HB5.out hb6⟩
  · have hE1 : (E != 0) = true := by simpa using hE
    have hE2 : (E == 0) = false := by simpa using hE
    clear hfw hok hrok hE
    go_enter Try.func3, Try.ntmps3
    go_wp2_with
      (first
        | (go_at_call 7; ((with_reducible refine (HR1.out _ HB0.out).mono ?_); rintro x W1 ⟨rfl, hb1⟩; have HB1 := Lib.hid (bthen (bthen HB0.out hb1) (box_below W1 (.cells (dcells q) 25))); clear hb1))
        | (go_at_call 8; ((refine (HR2.out _ HB1.out).mono ?_); rintro x W2 ⟨rfl, hb2⟩; have HB2 := Lib.hid hb2; clear hb2))
        | fail)
    have HX6 := Lib.hid (Blk.new W2 30 (cellsOf q))
    have HX3 := Lib.hid (((Blk.new W1 25 (dcells q)).below HB2.out).alloc (.cells (cellsOf q) 30))
    have HBX := Lib.hid (bthen (bthen HB1.out HB2.out) (box_below W2 (.cells (cellsOf q) 30)))
    generalize hX : (W2.alloc (.cells (#[.int .u8 q.k, .int .u8 q.s, .int .u8 q.u, .int .u8 q.p, .int .u8 q.m, .bool q.g, .int .u32 q.v, .int .u64 q.a, .string q.t]) 30)) = X at *
    have hS : ∀ Y, Below X.heap.size X Y → (Y.cell? ⟨W2.heap.size, 0, none⟩ = some (.int .u8 q.k) ∧ Y.cell? ⟨W2.heap.size, 1, none⟩ = some (.int .u8 q.s) ∧ Y.cell? ⟨W2.heap.size, 2, none⟩ = some (.int .u8 q.u) ∧ Y.cell? ⟨W2.heap.size, 3, none⟩ = some (.int .u8 q.p) ∧ Y.cell? ⟨W2.heap.size, 4, none⟩ = some (.int .u8 q.m) ∧ Y.cell? ⟨W2.heap.size, 5, none⟩ = some (.bool q.g) ∧ Y.cell? ⟨W2.heap.size, 6, none⟩ = some (.int .u32 q.v) ∧ Y.cell? ⟨W2.heap.size, 7, none⟩ = some (.int .u64 q.a) ∧ Y.cell? ⟨W2.heap.size, 8, none⟩ = some (.string q.t)) ∧ (Y.cell? ⟨W1.heap.size, 0, none⟩ = some (.int .i64 q.k) ∧ Y.cell? ⟨W1.heap.size, 1, none⟩ = some (.int .i64 q.s) ∧ Y.cell? ⟨W1.heap.size, 2, none⟩ = some (.int .i64 q.u) ∧ Y.cell? ⟨W1.heap.size, 3, none⟩ = some (.int .i64 q.p) ∧ Y.cell? ⟨W1.heap.size, 4, none⟩ = some (.int .i64 q.m) ∧ Y.cell? ⟨W1.heap.size, 5, none⟩ = some (.bool q.g) ∧ Y.cell? ⟨W1.heap.size, 6, none⟩ = some (.int .u64 q.v) ∧ Y.cell? ⟨W1.heap.size, 7, none⟩ = some (.int .u64 q.a) ∧ Y.cell? ⟨W1.heap.size, 8, none⟩ = some (.string q.t)) := fun Y hb => ⟨nine_cells (by have := HX6.out; unfold cellsOf at this; rw [hX] at this; exact this.below hb), (dz_cells (r := q) (by have := HX3.out; unfold cellsOf at this; rw [hX] at this; exact this.below hb)).1⟩
    have hBX : Below w.heap.size w X := by have := HBX.out; unfold cellsOf at this; rw [hX] at this; exact this
    obtain ⟨⟨c0, c1, c2, c3, c4, c5, c6, c7, c8⟩, ⟨d0, d1, d2, d3, d4, d5, d6, d7, d8⟩⟩ := hS X.drew (bx0 X)
    have HS2 := Lib.hid hS
    have hbx : Below X.heap.size X X.drew := bx0 X
    clear hS hX HX6 HX3 HBX
    go_region_held3 (fun w' => (w'.cell? ⟨W2.heap.size, 0, none⟩ = some (.int .u8 q.k) ∧ w'.cell? ⟨W2.heap.size, 1, none⟩ = some (.int .u8 q.s) ∧ w'.cell? ⟨W2.heap.size, 2, none⟩ = some (.int .u8 q.u) ∧ w'.cell? ⟨W2.heap.size, 3, none⟩ = some (.int .u8 q.p) ∧ w'.cell? ⟨W2.heap.size, 4, none⟩ = some (.int .u8 q.m) ∧ w'.cell? ⟨W2.heap.size, 5, none⟩ = some (.bool q.g) ∧ w'.cell? ⟨W2.heap.size, 6, none⟩ = some (.int .u32 q.v) ∧ w'.cell? ⟨W2.heap.size, 7, none⟩ = some (.int .u64 q.a) ∧ w'.cell? ⟨W2.heap.size, 8, none⟩ = some (.string q.t)) ∧ (w'.cell? ⟨W1.heap.size, 0, none⟩ = some (.int .i64 q.k) ∧ w'.cell? ⟨W1.heap.size, 1, none⟩ = some (.int .i64 q.s) ∧ w'.cell? ⟨W1.heap.size, 2, none⟩ = some (.int .i64 q.u) ∧ w'.cell? ⟨W1.heap.size, 3, none⟩ = some (.int .i64 q.p) ∧ w'.cell? ⟨W1.heap.size, 4, none⟩ = some (.int .i64 q.m) ∧ w'.cell? ⟨W1.heap.size, 5, none⟩ = some (.bool q.g) ∧ w'.cell? ⟨W1.heap.size, 6, none⟩ = some (.int .u64 q.v) ∧ w'.cell? ⟨W1.heap.size, 7, none⟩ = some (.int .u64 q.a) ∧ w'.cell? ⟨W1.heap.size, 8, none⟩ = some (.string q.t))) (first | (refine ⟨⟨?_, ?_, ?_, ?_, ?_, ?_, ?_, ?_, ?_⟩, ⟨?_, ?_, ?_, ?_, ?_, ?_, ?_, ?_, ?_⟩⟩ <;> with_reducible assumption) | fail)
      (first
        | (go_at_call 9; ((with_reducible refine (HOf.out _).mono ?_); rintro x W3 ⟨rfl, hb3⟩; have hb9 := bthen hbx hb3; obtain ⟨⟨e0, e1, e2, e3, e4, e5, e6, e7, e8⟩, ⟨f0, f1, f2, f3, f4, f5, f6, f7, f8⟩⟩ := HS2.out _ hb9))
        | fail)
    all_goals
      have HBW := Lib.hid (bthen hBX hb9)
      clear hb9 hb3 hbx hBX
      go_wp2_with ((with_reducible refine (known_any _).mono ?_); rintro x W5 ⟨rfl, hb5⟩)
      go_ret
      exact ⟨rfl, bthen HBW.out hb5⟩
theorem recordReads_any (a : Option Addr) (len cap : Nat) (Z : Nat → Int) (w : World) (hlc : len ≤ cap) (hcm : cap ≤ maxLen) (hI : Ints .u8 w a len Z) (hZ : ∀ i, i < len → 0 ≤ Z i ∧ Z i ≤ 255) :
    Calls Try.prog 3 #[.slice a len cap] w fun x w' => x = .returned (.bool true) ∧ Below w.heap.size w w' := by
  have hB : ∀ n, n ≤ len → Bytes (listOf Z n) := fun n hn v hv => by
    simp [listOf] at hv
    obtain ⟨i, hi, rfl⟩ := hv
    exact hZ i (by omega)
  by_cases h : (150 : Int) < (len : Int)
  · exact recordReads_at a len cap 150 (listOf Z 150) w (by decide) (by omega) hlc hcm (listOf_length Z 150) (Lst.of_ints (hI.mono (by omega))) (hB 150 (by omega)) (fun W => by rw [run_min_int2, if_pos h]; rfl)
  · exact recordReads_at a len cap len (listOf Z len) w (by omega) (Nat.le_refl _) hlc hcm (listOf_length Z len) (Lst.of_ints hI) (hB len (Nat.le_refl _)) (fun W => by rw [run_min_int2, if_neg h])
end Go.Proofs.Ytaekpejpcafnkaa.rw
