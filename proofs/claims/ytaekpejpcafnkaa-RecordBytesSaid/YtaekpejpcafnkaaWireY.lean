/-
  The walks of layer 3: the document's reader reads a small number.
-/
import Derived.Test.YtaekpejpcafnkaaWireX
namespace Go.Proofs.Ytaekpejpcafnkaa.ww
open Go.RowKit Go.Proofs.Ytaekpejpcafnkaa.ba Go.Proofs.Ytaekpejpcafnkaa.dp Go.Proofs.Ytaekpejpcafnkaa.wp Go.Proofs.Ytaekpejpcafnkaa.dw
set_option maxRecDepth 8000
set_option linter.unusedVariables false

/-- The three variables, as they are. -/
structure Tri (w W : World) (r f z : Array Value) : Prop where
  b : Below w.heap.size w W
  rd : Blk W w.heap.size 53 r
  fld : Blk W (w.heap.size + 1) 56 f
  res : Blk W (w.heap.size + 1 + 1) 53 z
theorem Tri.lit {w W : World} {r f : Array Value} {o : Obj} (hb : Below ((tri w r f).alloc o).heap.size ((tri w r f).alloc o) W) : Tri w W r f #[.slice none 0 0, .int .i64 0] :=
  ⟨bthen (bthen (tri_below w r f) (box_below _ _)) hb, ((tri_rd w r f).alloc o).below hb, ((tri_fld w r f).alloc o).below hb, ((tri_res w r f).alloc o).below hb⟩
theorem Tri.on {w W W' : World} {r f z : Array Value} (h : Tri w W r f z) (hb : Below W.heap.size W W') : Tri w W' r f z := ⟨bthen h.b hb, h.rd.below hb, h.fld.below hb, h.res.below hb⟩
theorem Tri.cells {w W : World} {r0 r1 f0 f1 f2 z0 z1 : Value} (h : Tri w W #[r0, r1] #[f0, f1, f2] #[z0, z1]) :
    W.cell? ⟨w.heap.size, 0, none⟩ = some r0 ∧ W.cell? ⟨w.heap.size, 1, none⟩ = some r1 ∧ W.cell? ⟨w.heap.size + 1, 0, none⟩ = some f0 ∧ W.cell? ⟨w.heap.size + 1, 1, none⟩ = some f1 ∧ W.cell? ⟨w.heap.size + 1, 2, none⟩ = some f2 ∧ W.cell? ⟨w.heap.size + 1 + 1, 0, none⟩ = some z0 ∧ W.cell? ⟨w.heap.size + 1 + 1, 1, none⟩ = some z1 ∧
    W.frozen? ⟨w.heap.size, 0, none⟩ = false ∧ W.frozen? ⟨w.heap.size + 1 + 1, 0, none⟩ = false ∧ W.frozen? ⟨w.heap.size + 1 + 1, 1, none⟩ = false :=
  ⟨h.rd.cell 0, h.rd.cell 1, h.fld.cell 0, h.fld.cell 1, h.fld.cell 2, h.res.cell 0, h.res.cell 1, h.rd.frozen 0, h.res.frozen 0, h.res.frozen 1⟩

set_option maxRecDepth 100000 in
set_option maxHeartbeats 4000000 in
theorem rread_num (n : Nat) (s : ByteArray) (a : Option Addr) (c : Nat) (l : List Int) (w : World) (hn : n < 18446744073709551616) (hc : l.length ≤ c) (hcm : c ≤ maxLen) (hBy : Bytes l) (hL : Lst .u8 w a l) :
    Calls Try.prog 20 #[.agg #[.slice a l.length c, .int .i64 0], .agg #[.int .i64 3, .int .u64 n, .string s]] w fun x w' => RRd w w' a l (((tkF 0 (numF n l) l 0).1, []), (tkF 0 (numF n l) l 0).2) x := by
  have hcm' := hcm
  unfold maxLen at hcm'
  obtain ⟨i0, hi, hz0, hz1, hz2⟩ := info_parts info5
  have HR := Lib.hid fun (W : World) (h : Below w.heap.size w W) => rreadS_any a c l W hc hcm' hBy (hL.below h)
  have hbd := readS_bounds l hBy
  have hF : (((tkF 0 (numF n l) l 0).1, ([] : List Int)), (tkF 0 (numF n l) l 0).2) = if (readS l).2.2 = 0 then (if (n : Int) < (readS l).1 then ((0, []), l, 5) else (((readS l).1, []), l.drop (readS l).2.1.toNat, 0)) else ((0, []), l, (readS l).2.2) := by
    unfold tkF numF
    rw [if_pos rfl]
    split
    · split <;> rfl
    · rfl
  rw [hF]
  clear hF
  obtain ⟨N, hN⟩ : ∃ N, N = (readS l).1 := ⟨_, rfl⟩
  obtain ⟨k, hk⟩ : ∃ k, k = (readS l).2.1 := ⟨_, rfl⟩
  obtain ⟨e, he⟩ : ∃ e, e = (readS l).2.2 := ⟨_, rfl⟩
  rw [← hN, ← hk, ← he] at HR hbd ⊢
  clear hN hk he
  have HF := Lib.hid fun (e : Int) (W : World) => fail_any a l.length c 0 e W
  have hw0 := tri_below w #[.slice a l.length c, .int .i64 0] #[.int .i64 3, .int .u64 n, .string s]
  unfold tri at hw0
  by_cases h0 : e = 0
  · subst h0
    obtain ⟨g1, g2, g3, g4⟩ := hbd rfl
    obtain ⟨N, rfl⟩ := Int.eq_ofNat_of_zero_le g1
    obtain ⟨q, rfl⟩ := Int.eq_ofNat_of_zero_le (by omega : 0 ≤ k)
    clear hbd
    rw [if_pos rfl]
    by_cases hm : (n : Int) < (N : Int)
    · rw [if_pos hm]
      go_enter Try.func20, Try.ntmps20
      go_wp2_with (first
        | (go_at_call 49; ((with_reducible refine (HR.out _ (bthen hw0 (box_below _ _))).mono ?_); rintro x W1 ⟨rfl, hb1⟩; have hT := Tri.lit hb1; obtain ⟨c0, c1, d0, d1, d2, e0, e1, f0, f1, f2⟩ := hT.cells; clear hb1))
        | (go_at_call 48; ((with_reducible refine (HF.out _ _).mono ?_); rintro x W2 ⟨rfl, hb2⟩; have hT2 := hT.on hb2; clear c0 c1 d0 d1 d2 e0 e1 f0 f1 f2; obtain ⟨c0, c1, d0, d1, d2, e0, e1, f0, f1, f2⟩ := hT2.cells)))
      exact bodyPost_ret (v := .tuple #[.agg #[.slice a l.length c, .int .i64 5], .int .u64 0, .string ⟨#[]⟩]) (by simp [results, Try.results20, go_sem, e0, e1]) rfl ⟨a, c, rfl, hc, hcm, fun _ h => h, res_set hT2.b _ _⟩
    · rw [if_neg hm]
      have hm' : (N : Int) ≤ (n : Int) := by omega
      have hq1 : (q : Int) ≤ (c : Int) := by omega
      have hq0 : (0 : Int) ≤ (q : Int) := Int.natCast_nonneg _
      obtain ⟨a2, n2, c2, hcut, hn2, hc2, hc3, hL2, _⟩ := run_cut_from (P := Try.prog) 22 5 Try.underlying22 i0 hi hz1 a l.length c q (by omega) hc
      have hl2 : (l.drop q).length = n2 := by rw [List.length_drop, hn2]
      have hLL := Lib.hid fun (W0 : World) (h : Lst .u8 W0 a l) => hL2 .u8 W0 l rfl h
      clear hn2 hL2 hm hn g2
      rw [Int.toNat_natCast]
      go_enter Try.func20, Try.ntmps20
      go_wp2_with (first
        | (go_at_call 49; ((with_reducible refine (HR.out _ (bthen hw0 (box_below _ _))).mono ?_); rintro x W1 ⟨rfl, hb1⟩; have hT := Tri.lit hb1; obtain ⟨c0, c1, d0, d1, d2, e0, e1, f0, f1, f2⟩ := hT.cells; clear hb1)))
      exact bodyPost_ret (v := .tuple #[.agg #[.slice a2 n2 c2, .int .i64 0], .int .u64 N, .string ⟨#[]⟩]) (by simp [results, Try.results20, go_sem, e0, e1]) rfl ⟨a2, c2, by rw [← hl2]; rfl, by show (l.drop q).length ≤ c2; omega, Nat.le_trans hc3 hcm, hLL.out, res_set (Kept.below (S := fun j => j = w.heap.size) (Kept.of_set (S := fun j => j = w.heap.size) (p := ⟨w.heap.size, 0, none⟩) _ rfl) hT.b (fun j hj => by omega)) _ _⟩
  · rw [if_neg h0]
    have h0' : (e == 0) = false := by simpa using h0
    clear h0 hbd
    go_enter Try.func20, Try.ntmps20
    go_wp2_with (first
      | (go_at_call 49; ((with_reducible refine (HR.out _ (bthen hw0 (box_below _ _))).mono ?_); rintro x W1 ⟨rfl, hb1⟩; have hT := Tri.lit hb1; obtain ⟨c0, c1, d0, d1, d2, e0, e1, f0, f1, f2⟩ := hT.cells; clear hb1))
      | (go_at_call 48; ((with_reducible refine (HF.out _ _).mono ?_); rintro x W2 ⟨rfl, hb2⟩; have hT2 := hT.on hb2; clear c0 c1 d0 d1 d2 e0 e1 f0 f1 f2; obtain ⟨c0, c1, d0, d1, d2, e0, e1, f0, f1, f2⟩ := hT2.cells)))
    exact bodyPost_ret (v := .tuple #[.agg #[.slice a l.length c, .int .i64 e], .int .u64 0, .string ⟨#[]⟩]) (by simp [results, Try.results20, go_sem, e0, e1]) rfl ⟨a, c, rfl, hc, hcm, fun _ h => h, res_set hT2.b _ _⟩
end Go.Proofs.Ytaekpejpcafnkaa.ww
