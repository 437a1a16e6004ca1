/-
  The walks of layer 10: the chapter's example; a record as the document's; a record with a short text.
-/
import Derived.Test.YtaekpejpcafnkaaRecR
import Derived.Test.YtaekpejpcafnkaaRecO
import Derived.Test.YtaekpejpcafnkaaMb
namespace Go.Proofs.Ytaekpejpcafnkaa.rw
open Go.RowKit Go.Proofs.Ytaekpejpcafnkaa.ba Go.Proofs.Ytaekpejpcafnkaa.rp Go.Proofs.Ytaekpejpcafnkaa.dp Go.Proofs.Ytaekpejpcafnkaa.dw Go.Proofs.Ytaekpejpcafnkaa.wp Go.Proofs.Ytaekpejpcafnkaa.ww
set_option maxRecDepth 8000
set_option linter.unusedVariables false
attribute [local go_sem ↓] Go.wp_at_zero Go.wp_at_succ

theorem recs_new (w : World) (r : R) (t : TypeId) : Recs (w.alloc (.cells (cellsOf r) t)) (some ⟨w.heap.size, 0, none⟩) [r] := by
  refine .inr ⟨_, 0, rfl, fun i q hq c v hv => ?_⟩
  cases i with
  | zero =>
    simp at hq
    subst hq
    rw [show 0 + 0 * 9 + c = c from by omega]
    exact ((Blk.new w t (cellsOf r)).cell c).trans hv
  | succ i => simp at hq
/-- One record's bytes, the record being in a box. -/
theorem bytes_one (r : R) (w : World) (hr : r.ok) : Calls Try.prog 11 #[.slice (some ⟨w.heap.size, 0, none⟩) 1 1] (w.alloc (.cells (#[.int .u8 r.k, .int .u8 r.s, .int .u8 r.u, .int .u8 r.p, .int .u8 r.m, .bool r.g, .int .u32 r.v, .int .u64 r.a, .string r.t]) 30)) fun x w' => GotB w w' (recF [r] []) x :=
  (recbytes_any _ 1 1 [r] _ rfl (by decide) (recs_new w r _) (fun q hq => by simp at hq; subst hq; exact hr)).mono fun x w' ⟨a, c, h1, h2, h3, h4, h5, h6⟩ => ⟨a, c, h1, h2, h3, h4, h5, bthen (box_below w _) h6⟩
theorem recF_one (r : R) : recF [r] [] = if checkF r = 0 then (encR r, 0) else ([], checkF r) := by
  rw [recF]
  split <;> simp [recF]
set_option maxRecDepth 100000 in
theorem of_any (r : R) (w : World) (hr : r.ok) :
    Calls Try.prog 9 #[.agg #[.int .u8 r.k, .int .u8 r.s, .int .u8 r.u, .int .u8 r.p, .int .u8 r.m, .bool r.g, .int .u32 r.v, .int .u64 r.a, .string r.t]] w fun x w' => x = .returned (.agg #[.int .i64 r.k, .int .i64 r.s, .int .i64 r.u, .int .i64 r.p, .int .i64 r.m, .bool r.g, .int .u64 r.v, .int .u64 r.a, .string r.t]) ∧ Below w.heap.size w w' := by
  obtain ⟨⟨k0, k1⟩, ⟨s0, s1⟩, ⟨u0, u1⟩, ⟨p0, p1⟩, ⟨m0, m1⟩, ⟨v0, v1⟩, ⟨a0, a1⟩, _⟩ := hr
  have hB := bx3 w (.cells (cellsOf r) 30) (.cells (dcells r) 25)
  have HB := Lib.hid hB
  clear hB a1
  go_enter Try.func9, Try.ntmps9
  go_wp2_with fail
  exact bodyPost_ret (v := .agg #[.int .i64 r.k, .int .i64 r.s, .int .i64 r.u, .int .i64 r.p, .int .i64 r.m, .bool r.g, .int .u64 r.v, .int .u64 r.a, .string r.t]) (by simp [results, Try.results9, go_sem]) rfl ⟨rfl, HB.out⟩
/-- A record with a short text. -/
def cutR (r : R) : R := if 80 < r.t.size then { r with t := r.t.extract 0 80 } else r
theorem cutR_ok {r : R} (h : r.ok) : (cutR r).ok ∧ (cutR r).t.size ≤ 80 := by
  unfold cutR
  split
  · refine ⟨⟨h.k, h.s, h.u, h.p, h.m, h.v, h.a, ?_⟩, ?_⟩ <;> simp only [ByteArray.size_extract] <;> omega
  · exact ⟨h, by omega⟩
set_option maxRecDepth 100000 in
theorem cut_any (r : R) (w : World) (hr : r.ok) :
    Calls Try.prog 13 #[.agg #[.int .u8 r.k, .int .u8 r.s, .int .u8 r.u, .int .u8 r.p, .int .u8 r.m, .bool r.g, .int .u32 r.v, .int .u64 r.a, .string r.t]] w fun x w' => x = .returned (.agg (cellsOf (cutR r))) ∧ Below w.heap.size w w' := by
  have ht := hr.t
  have HB := Lib.hid fun (o o' : Obj) => bx3 w o o'
  by_cases h : (80 : Int) < (r.t.size : Int)
  · have e : cutR r = { r with t := r.t.extract 0 80 } := if_pos (by omega)
    have hmin : ∀ W, (Builtin.min_ #[3, 3] 3 #[.int .i64 (r.t.size : Int), .int .i64 80]).run Try.prog W = .ok (.int .i64 80) W := fun W => by rw [run_min_int2, if_pos h]
    have h2 : (80 : Int) ≤ (r.t.size : Int) := by omega
    rw [e]
    clear e
    go_enter Try.func13, Try.ntmps13
    go_wp2_with fail
    exact bodyPost_ret (v := .agg (cellsOf { r with t := r.t.extract 0 80 })) (by simp [results, Try.results13, go_sem, cellsOf]) rfl ⟨rfl, HB.out _ _⟩
  · have e : cutR r = r := if_neg (by omega)
    have hmin : ∀ W, (Builtin.min_ #[3, 3] 3 #[.int .i64 (r.t.size : Int), .int .i64 80]).run Try.prog W = .ok (.int .i64 (r.t.size : Int)) W := fun W => by rw [run_min_int2, if_neg h]
    have h2 : (r.t.size : Int) ≤ 80 := by omega
    rw [e]
    clear e h
    go_enter Try.func13, Try.ntmps13
    go_wp2_with fail
    exact bodyPost_ret (v := .agg (cellsOf r)) (by simp [results, Try.results13, go_sem, cellsOf]) rfl ⟨rfl, HB.out _ _⟩

/-- The chapter's example. -/
def exR : R := ⟨6, 3, 2, 0, 0, false, 300, 0, ⟨#[72, 97, 108, 108, 111]⟩⟩
theorem exR_ok : exR.ok := ⟨by decide, by decide, by decide, by decide, by decide, by decide, by decide, by decide⟩
theorem exR_bytes : recF [exR] [] = ([6, 3, 2, 172, 2, 5, 72, 97, 108, 108, 111], 0) := by decide
theorem ex_read : readF [5, 2, 1, 0] = (zR, 0, 5) := by
  have h : (readF [5, 2, 1, 0]).2.2 = 5 := by decide
  unfold readF at h ⊢
  simp only at h ⊢
  rw [if_neg (by decide)] at h ⊢
  split at h
  · exact absurd h (by decide)
  · next he => rw [if_neg he]; simp only at h; rw [h]
set_option maxRecDepth 100000 in
theorem known_any (w : World) : Calls Try.prog 10 #[] w fun x w' => x = .returned (.bool true) ∧ Below w.heap.size w w' := by
  have HB : Hid (∀ W : World, Calls Try.prog 11 #[.slice (some ⟨W.heap.size, 0, none⟩) 1 1] (W.alloc (.cells #[.int .u8 6, .int .u8 3, .int .u8 2, .int .u8 0, .int .u8 0, .bool false, .int .u32 300, .int .u64 0, .string ⟨#[72, 97, 108, 108, 111]⟩] 30)) fun x w' => ∃ a c, x = .returned (.tuple #[.slice a 11 c, .int .i64 0]) ∧ Lst .u8 w' a [6, 3, 2, 172, 2, 5, 72, 97, 108, 108, 111] ∧ Below W.heap.size W w') :=
    Lib.hid fun W => (bytes_one exR W exR_ok).mono fun x w' ⟨a, c, h1, _, _, h2, _, h3⟩ => by
      rw [exR_bytes] at h1 h2
      exact ⟨a, c, h1, h2, h3⟩
  have HR : Hid (∀ W : World, Calls Try.prog 8 #[.slice (some ⟨W.heap.size, 0, none⟩) 4 4] (W.alloc (.cells #[.int .u8 5, .int .u8 2, .int .u8 1, .int .u8 0] 5)) fun x w' => ∃ r : R, x = .returned (.tuple #[.agg #[.int .u8 r.k, .int .u8 r.s, .int .u8 r.u, .int .u8 r.p, .int .u8 r.m, .bool r.g, .int .u32 r.v, .int .u64 r.a, .string r.t], .int .i64 0, .int .i64 5]) ∧ Below W.heap.size W w') :=
    Lib.hid fun W => (read_any (some ⟨W.heap.size, 0, none⟩) 4 4 [5, 2, 1, 0] _ rfl (by decide) (lst_new .u8 W [5, 2, 1, 0] _) (fun e => by cases e) (by intro v hv; simp at hv; omega)).mono fun x w' ⟨h1, h2⟩ => by
      rw [ex_read] at h1
      exact ⟨zR, h1, bthen (box_below W _) h2⟩
  have HS : Hid (∀ (W : World) (B : Nat) (a : Option Addr) (c : Nat), B = W.heap.size → Lst .u8 W a [6, 3, 2, 172, 2, 5, 72, 97, 108, 108, 111] → Calls Try.prog 12 #[.slice a 11 c, .slice (some ⟨B, 0, none⟩) 11 11] (W.alloc (.cells #[.int .u8 6, .int .u8 3, .int .u8 2, .int .u8 172, .int .u8 2, .int .u8 5, .int .u8 72, .int .u8 97, .int .u8 108, .int .u8 108, .int .u8 111] 5)) fun x w' => x = .returned (.bool true) ∧ Below W.heap.size W w') :=
    Lib.hid fun W B a c hBe hL => by
      subst hBe
      exact (same_any a (some ⟨W.heap.size, 0, none⟩) c 11 [6, 3, 2, 172, 2, 5, 72, 97, 108, 108, 111] [6, 3, 2, 172, 2, 5, 72, 97, 108, 108, 111] _ (by decide) (by decide) (hL.below (box_below W _)) (lst_new .u8 W _ _)).mono fun x w' ⟨h1, h2⟩ => ⟨by simpa using h1, bthen (box_below W _) h2⟩
  go_enter Try.func10, Try.ntmps10
  go_wp2_with
    (first
      | (go_at_call 11; ((with_reducible refine (HB.out _).mono ?_); rintro x W1 ⟨a1, c1, rfl, hL1, hb1⟩; have HL1 := Lib.hid hL1; have HB1 := Lib.hid hb1; clear hL1 hb1))
      | (go_at_call 8; ((with_reducible refine (HR.out _).mono ?_); rintro x W2 ⟨r2, rfl, hb2⟩; have HB2 := Lib.hid hb2; clear hb2))
      | (go_at_call 12; ((with_reducible refine (HS.out _ _ _ _ (by simp) ((HL1.out.below HB2.out).below (box_below W2 _))).mono ?_); rintro x W3 ⟨rfl, hb3⟩))
      | fail)
  go_ret
  exact ⟨rfl, bthen (bthen (bthen HB1.out HB2.out) (box_below _ _)) hb3⟩
end Go.Proofs.Ytaekpejpcafnkaa.rw
