/-
  The walks of layer 3: the document's reader reads a number of so many bytes.
-/
import Derived.Test.YtaekpejpcafnkaaWireW
namespace Go.Proofs.Ytaekpejpcafnkaa.ww
open Go.RowKit Go.Proofs.Ytaekpejpcafnkaa.ba Go.Proofs.Ytaekpejpcafnkaa.dp Go.Proofs.Ytaekpejpcafnkaa.wp Go.Proofs.Ytaekpejpcafnkaa.dw
set_option maxRecDepth 8000
set_option linter.unusedVariables false

theorem tk_fix_end (s : Nat) (l : List Int) (h : l.length < s) : ((tkF 0 (fixF s l) l 0).1, ([] : List Int), (tkF 0 (fixF s l) l 0).2) = (0, [], l, 4) := by
  unfold tkF fixF
  rw [if_pos rfl, if_pos h]
  rfl
theorem tk_fix_ok (s : Nat) (l : List Int) (h : s ≤ l.length) : ((tkF 0 (fixF s l) l 0).1, ([] : List Int), (tkF 0 (fixF s l) l 0).2) = (beF 0 (l.take s), [], l.drop s, 0) := by
  unfold tkF fixF
  rw [if_pos rfl, if_neg (by omega)]
  simp

/-- The reader's variable, the field's, the result's: blocks of the call's own. -/
def tri (w : World) (r f : Array Value) : World := ((w.alloc (.cells r 53)).alloc (.cells f 56)).alloc (.cells #[.slice none 0 0, .int .i64 0] 53)
theorem tri_size (w : World) (r f : Array Value) : (tri w r f).heap.size = w.heap.size + 1 + 1 + 1 := by simp [tri]
theorem tri_below (w : World) (r f : Array Value) : Below w.heap.size w (tri w r f) := bthen (bthen (box_below _ _) (box_below _ _)) (box_below _ _)
theorem tri_res (w : World) (r f : Array Value) : Blk (tri w r f) (w.heap.size + 1 + 1) 53 #[.slice none 0 0, .int .i64 0] := by
  have := Blk.new ((w.alloc (.cells r 53)).alloc (.cells f 56)) 53 #[.slice none 0 0, .int .i64 0]
  simpa [tri] using this
theorem tri_rd (w : World) (r f : Array Value) : Blk (tri w r f) w.heap.size 53 r := ((Blk.new w _ r).alloc _).alloc _
theorem tri_fld (w : World) (r f : Array Value) : Blk (tri w r f) (w.heap.size + 1) 56 f := by
  have := (Blk.new (w.alloc (.cells r 53)) 56 f).alloc (.cells #[.slice none 0 0, .int .i64 0] 53)
  simpa [tri] using this

theorem res_set {w W : World} (h : Below w.heap.size w W) (x y : Value) : Below w.heap.size w ((W.setCell ⟨w.heap.size + 1 + 1, 0, none⟩ x).setCell ⟨w.heap.size + 1 + 1, 1, none⟩ y) :=
  Kept.below (S := fun j => j = w.heap.size + 1 + 1) ((Kept.of_set (S := fun j => j = w.heap.size + 1 + 1) (p := ⟨w.heap.size + 1 + 1, 0, none⟩) x rfl).on (Kept.of_set (S := fun j => j = w.heap.size + 1 + 1) (p := ⟨w.heap.size + 1 + 1, 1, none⟩) y rfl)) h (fun j hj => by omega)

set_option maxHeartbeats 4000000 in
theorem rread_fix0 (n : Nat) (s : ByteArray) (a : Option Addr) (c : Nat) (l : List Int) (w : World) (hc : l.length ≤ c) (hcm : c ≤ maxLen) (hBy : Bytes l) (hL : Lst .u8 w a l) :
    Calls Try.prog 20 #[.agg #[.slice a l.length c, .int .i64 0], .agg #[.int .i64 0, .int .u64 n, .string s]] w fun x w' => RRd w w' a l (((tkF 0 (fixF 1 l) l 0).1, []), (tkF 0 (fixF 1 l) l 0).2) x := by
  have hcm' := hcm
  unfold maxLen at hcm'
  by_cases hlt : l.length < 1
  · rw [show (((tkF 0 (fixF 1 l) l 0).1, ([] : List Int)), (tkF 0 (fixF 1 l) l 0).2) = ((0, []), l, 4) from by have := tk_fix_end 1 l hlt; simp only [Prod.mk.injEq] at this ⊢; exact ⟨⟨this.1, trivial⟩, this.2.2⟩]
    have hltI : (l.length : Int) < 1 := by omega
    have HF := Lib.hid fun (W : World) => fail_any a l.length c 0 4 W
    go_enter Try.func20, Try.ntmps20
    go_wp2_with ((with_reducible refine (HF.out _).mono ?_); rintro x W1 ⟨rfl, hb1⟩; have hR : Blk W1 (w.heap.size + 1 + 1) 53 #[.slice none 0 0, .int .i64 0] := ((tri_res w _ _).alloc _).below hb1; have f1 := hR.frozen 0; have f2 := hR.frozen 1; have c0 : W1.cell? ⟨w.heap.size + 1 + 1, 0, none⟩ = some (.slice none 0 0) := hR.cell 0; have c1 : W1.cell? ⟨w.heap.size + 1 + 1, 1, none⟩ = some (.int .i64 0) := hR.cell 1)
    exact bodyPost_ret (v := .tuple #[.agg #[.slice a l.length c, .int .i64 4], .int .u64 0, .string ⟨#[]⟩]) (by simp [results, Try.results20, go_sem, c0, c1]) rfl ⟨a, c, rfl, hc, hcm, fun _ h => h, res_set (bthen (bthen (tri_below w _ _) (box_below _ _)) hb1) _ _⟩
  · rw [show (((tkF 0 (fixF 1 l) l 0).1, ([] : List Int)), (tkF 0 (fixF 1 l) l 0).2) = ((beF 0 (l.take 1), []), l.drop 1, 0) from by have := tk_fix_ok 1 l (by omega); simp only [Prod.mk.injEq] at this ⊢; exact ⟨⟨this.1, trivial⟩, this.2.2⟩]
    obtain ⟨i0, hi, hz0, hz1, hz2⟩ := info_parts info5
    have hgeI : (1 : Int) ≤ (l.length : Int) := by omega
    have hgeC : (1 : Int) ≤ (c : Int) := by omega
    obtain ⟨a2, n2, c2, hcut, hn2, hc2, hc3, hL2, _⟩ := run_cut_from (P := Try.prog) 22 5 Try.underlying22 i0 hi hz1 a l.length c 1 (by omega) hc
    replace hcut : ∀ W, (Instr.slice 22 (.slice a l.length c) (some (.int .i64 1)) none none).run Try.prog W = .ok (.slice a2 n2 c2) W := hcut
    have hl2 : (l.drop 1).length = n2 := by rw [List.length_drop, hn2]
    have hLL := Lib.hid fun (W0 : World) (h : Lst .u8 W0 a l) => hL2 .u8 W0 l rfl h
    go_enter Try.func20, Try.ntmps20
    go_wp2_with fail
    go_loopw [9, 10] (fun m i wr => ∃ k : Nat, k ≤ 1 ∧ i = .int .i64 k ∧ m = .int .u64 (beF 0 (l.take k)) ∧ Blk wr w.heap.size 53 #[.slice a l.length c, .int .i64 0] ∧ Blk wr (w.heap.size + 1 + 1) 53 #[.slice none 0 0, .int .i64 0] ∧ Below w.heap.size w wr) (fun _ i _ => 1 - (intOf i).toNat)
    case atStart => exact ⟨0, Nat.zero_le _, rfl, by simp [beF], (tri_rd w _ _).alloc _, (tri_res w _ _).alloc _, bthen (tri_below w _ _) (box_below _ _)⟩
    case round =>
      obtain ⟨k, hk, rfl, rfl, hb0, hb2, hbel⟩ := hrel
      have c0 : wr.cell? ⟨w.heap.size, 0, none⟩ = some (.slice a l.length c) := hb0.cell 0
      have c1 : wr.cell? ⟨w.heap.size, 1, none⟩ = some (.int .i64 0) := hb0.cell 1
      have d0 : wr.cell? ⟨w.heap.size + 1 + 1, 0, none⟩ = some (.slice none 0 0) := hb2.cell 0
      have d1 : wr.cell? ⟨w.heap.size + 1 + 1, 1, none⟩ = some (.int .i64 0) := hb2.cell 1
      have f0 := hb0.frozen 0
      have f2 := hb2.frozen 0
      have f3 := hb2.frozen 1
      by_cases hlt : k < 1
      · obtain ⟨v, hv⟩ := some_at l (i := k) (by omega)
        have hvb := hBy.at hv
        obtain ⟨be0, be1⟩ := be_small l k (by omega) hBy
        obtain ⟨b, off, ha, c2⟩ := hL.at hv
        have e0 := bsome hbel c2 (World.block_lt_of_cell? _ _ c2)
        subst ha
        have hltI : (k : Int) < 1 := by omega
        have hltL : (k : Int) < (l.length : Int) := by omega
        have htk : Hid (beF 0 (l.take (k + 1)) = beF 0 (l.take k) * 256 + v) := by show _ = _; rw [take_succ_at hv, beF_snoc]
        obtain ⟨hv0, hv1⟩ := hvb
        clear hv c2 hcut hL2
        go_wp2_with fail
        go_roundw
        case rel => exact ⟨k + 1, by omega, by go_num, by rw [htk.out], hb0, hb2, hbel⟩
        case measure => simp [intOf]; omega
      · have hk8 : k = 1 := by omega
        subst hk8
        have hcu := hcut
        clear hcut hL2
        go_wp2_with fail
        exact bodyPost_ret (v := .tuple #[.agg #[.slice a2 (l.length - 1) c2, .int .i64 0], .int .u64 (beF 0 (l.take 1)), .string ⟨#[]⟩]) (by simp [results, Try.results20, go_sem, d0, d1]) rfl ⟨a2, c2, by simp only [List.length_drop]; rfl, by show (l.drop 1).length ≤ c2; omega, Nat.le_trans hc3 hcm, hLL.out, res_set (Kept.below (S := fun j => j = w.heap.size) (Kept.of_set (S := fun j => j = w.heap.size) (p := ⟨w.heap.size, 0, none⟩) _ rfl) hbel (fun j hj => by omega)) _ _⟩
set_option maxHeartbeats 4000000 in
theorem rread_fix1 (n : Nat) (s : ByteArray) (a : Option Addr) (c : Nat) (l : List Int) (w : World) (hc : l.length ≤ c) (hcm : c ≤ maxLen) (hBy : Bytes l) (hL : Lst .u8 w a l) :
    Calls Try.prog 20 #[.agg #[.slice a l.length c, .int .i64 0], .agg #[.int .i64 1, .int .u64 n, .string s]] w fun x w' => RRd w w' a l (((tkF 0 (fixF 2 l) l 0).1, []), (tkF 0 (fixF 2 l) l 0).2) x := by
  have hcm' := hcm
  unfold maxLen at hcm'
  by_cases hlt : l.length < 2
  · rw [show (((tkF 0 (fixF 2 l) l 0).1, ([] : List Int)), (tkF 0 (fixF 2 l) l 0).2) = ((0, []), l, 4) from by have := tk_fix_end 2 l hlt; simp only [Prod.mk.injEq] at this ⊢; exact ⟨⟨this.1, trivial⟩, this.2.2⟩]
    have hltI : (l.length : Int) < 2 := by omega
    have HF := Lib.hid fun (W : World) => fail_any a l.length c 0 4 W
    go_enter Try.func20, Try.ntmps20
    go_wp2_with ((with_reducible refine (HF.out _).mono ?_); rintro x W1 ⟨rfl, hb1⟩; have hR : Blk W1 (w.heap.size + 1 + 1) 53 #[.slice none 0 0, .int .i64 0] := ((tri_res w _ _).alloc _).below hb1; have f1 := hR.frozen 0; have f2 := hR.frozen 1; have c0 : W1.cell? ⟨w.heap.size + 1 + 1, 0, none⟩ = some (.slice none 0 0) := hR.cell 0; have c1 : W1.cell? ⟨w.heap.size + 1 + 1, 1, none⟩ = some (.int .i64 0) := hR.cell 1)
    exact bodyPost_ret (v := .tuple #[.agg #[.slice a l.length c, .int .i64 4], .int .u64 0, .string ⟨#[]⟩]) (by simp [results, Try.results20, go_sem, c0, c1]) rfl ⟨a, c, rfl, hc, hcm, fun _ h => h, res_set (bthen (bthen (tri_below w _ _) (box_below _ _)) hb1) _ _⟩
  · rw [show (((tkF 0 (fixF 2 l) l 0).1, ([] : List Int)), (tkF 0 (fixF 2 l) l 0).2) = ((beF 0 (l.take 2), []), l.drop 2, 0) from by have := tk_fix_ok 2 l (by omega); simp only [Prod.mk.injEq] at this ⊢; exact ⟨⟨this.1, trivial⟩, this.2.2⟩]
    obtain ⟨i0, hi, hz0, hz1, hz2⟩ := info_parts info5
    have hgeI : (2 : Int) ≤ (l.length : Int) := by omega
    have hgeC : (2 : Int) ≤ (c : Int) := by omega
    obtain ⟨a2, n2, c2, hcut, hn2, hc2, hc3, hL2, _⟩ := run_cut_from (P := Try.prog) 22 5 Try.underlying22 i0 hi hz1 a l.length c 2 (by omega) hc
    replace hcut : ∀ W, (Instr.slice 22 (.slice a l.length c) (some (.int .i64 2)) none none).run Try.prog W = .ok (.slice a2 n2 c2) W := hcut
    have hl2 : (l.drop 2).length = n2 := by rw [List.length_drop, hn2]
    have hLL := Lib.hid fun (W0 : World) (h : Lst .u8 W0 a l) => hL2 .u8 W0 l rfl h
    go_enter Try.func20, Try.ntmps20
    go_wp2_with fail
    go_loopw [9, 10] (fun m i wr => ∃ k : Nat, k ≤ 2 ∧ i = .int .i64 k ∧ m = .int .u64 (beF 0 (l.take k)) ∧ Blk wr w.heap.size 53 #[.slice a l.length c, .int .i64 0] ∧ Blk wr (w.heap.size + 1 + 1) 53 #[.slice none 0 0, .int .i64 0] ∧ Below w.heap.size w wr) (fun _ i _ => 2 - (intOf i).toNat)
    case atStart => exact ⟨0, Nat.zero_le _, rfl, by simp [beF], (tri_rd w _ _).alloc _, (tri_res w _ _).alloc _, bthen (tri_below w _ _) (box_below _ _)⟩
    case round =>
      obtain ⟨k, hk, rfl, rfl, hb0, hb2, hbel⟩ := hrel
      have c0 : wr.cell? ⟨w.heap.size, 0, none⟩ = some (.slice a l.length c) := hb0.cell 0
      have c1 : wr.cell? ⟨w.heap.size, 1, none⟩ = some (.int .i64 0) := hb0.cell 1
      have d0 : wr.cell? ⟨w.heap.size + 1 + 1, 0, none⟩ = some (.slice none 0 0) := hb2.cell 0
      have d1 : wr.cell? ⟨w.heap.size + 1 + 1, 1, none⟩ = some (.int .i64 0) := hb2.cell 1
      have f0 := hb0.frozen 0
      have f2 := hb2.frozen 0
      have f3 := hb2.frozen 1
      by_cases hlt : k < 2
      · obtain ⟨v, hv⟩ := some_at l (i := k) (by omega)
        have hvb := hBy.at hv
        obtain ⟨be0, be1⟩ := be_small l k (by omega) hBy
        obtain ⟨b, off, ha, c2⟩ := hL.at hv
        have e0 := bsome hbel c2 (World.block_lt_of_cell? _ _ c2)
        subst ha
        have hltI : (k : Int) < 2 := by omega
        have hltL : (k : Int) < (l.length : Int) := by omega
        have htk : Hid (beF 0 (l.take (k + 1)) = beF 0 (l.take k) * 256 + v) := by show _ = _; rw [take_succ_at hv, beF_snoc]
        obtain ⟨hv0, hv1⟩ := hvb
        clear hv c2 hcut hL2
        go_wp2_with fail
        go_roundw
        case rel => exact ⟨k + 1, by omega, by go_num, by rw [htk.out], hb0, hb2, hbel⟩
        case measure => simp [intOf]; omega
      · have hk8 : k = 2 := by omega
        subst hk8
        have hcu := hcut
        clear hcut hL2
        go_wp2_with fail
        exact bodyPost_ret (v := .tuple #[.agg #[.slice a2 (l.length - 2) c2, .int .i64 0], .int .u64 (beF 0 (l.take 2)), .string ⟨#[]⟩]) (by simp [results, Try.results20, go_sem, d0, d1]) rfl ⟨a2, c2, by simp only [List.length_drop]; rfl, by show (l.drop 2).length ≤ c2; omega, Nat.le_trans hc3 hcm, hLL.out, res_set (Kept.below (S := fun j => j = w.heap.size) (Kept.of_set (S := fun j => j = w.heap.size) (p := ⟨w.heap.size, 0, none⟩) _ rfl) hbel (fun j hj => by omega)) _ _⟩
set_option maxHeartbeats 4000000 in
theorem rread_fix2 (n : Nat) (s : ByteArray) (a : Option Addr) (c : Nat) (l : List Int) (w : World) (hc : l.length ≤ c) (hcm : c ≤ maxLen) (hBy : Bytes l) (hL : Lst .u8 w a l) :
    Calls Try.prog 20 #[.agg #[.slice a l.length c, .int .i64 0], .agg #[.int .i64 2, .int .u64 n, .string s]] w fun x w' => RRd w w' a l (((tkF 0 (fixF 8 l) l 0).1, []), (tkF 0 (fixF 8 l) l 0).2) x := by
  have hcm' := hcm
  unfold maxLen at hcm'
  by_cases hlt : l.length < 8
  · rw [show (((tkF 0 (fixF 8 l) l 0).1, ([] : List Int)), (tkF 0 (fixF 8 l) l 0).2) = ((0, []), l, 4) from by have := tk_fix_end 8 l hlt; simp only [Prod.mk.injEq] at this ⊢; exact ⟨⟨this.1, trivial⟩, this.2.2⟩]
    have hltI : (l.length : Int) < 8 := by omega
    have HF := Lib.hid fun (W : World) => fail_any a l.length c 0 4 W
    go_enter Try.func20, Try.ntmps20
    go_wp2_with ((with_reducible refine (HF.out _).mono ?_); rintro x W1 ⟨rfl, hb1⟩; have hR : Blk W1 (w.heap.size + 1 + 1) 53 #[.slice none 0 0, .int .i64 0] := ((tri_res w _ _).alloc _).below hb1; have f1 := hR.frozen 0; have f2 := hR.frozen 1; have c0 : W1.cell? ⟨w.heap.size + 1 + 1, 0, none⟩ = some (.slice none 0 0) := hR.cell 0; have c1 : W1.cell? ⟨w.heap.size + 1 + 1, 1, none⟩ = some (.int .i64 0) := hR.cell 1)
    exact bodyPost_ret (v := .tuple #[.agg #[.slice a l.length c, .int .i64 4], .int .u64 0, .string ⟨#[]⟩]) (by simp [results, Try.results20, go_sem, c0, c1]) rfl ⟨a, c, rfl, hc, hcm, fun _ h => h, res_set (bthen (bthen (tri_below w _ _) (box_below _ _)) hb1) _ _⟩
  · rw [show (((tkF 0 (fixF 8 l) l 0).1, ([] : List Int)), (tkF 0 (fixF 8 l) l 0).2) = ((beF 0 (l.take 8), []), l.drop 8, 0) from by have := tk_fix_ok 8 l (by omega); simp only [Prod.mk.injEq] at this ⊢; exact ⟨⟨this.1, trivial⟩, this.2.2⟩]
    obtain ⟨i0, hi, hz0, hz1, hz2⟩ := info_parts info5
    have hgeI : (8 : Int) ≤ (l.length : Int) := by omega
    have hgeC : (8 : Int) ≤ (c : Int) := by omega
    obtain ⟨a2, n2, c2, hcut, hn2, hc2, hc3, hL2, _⟩ := run_cut_from (P := Try.prog) 22 5 Try.underlying22 i0 hi hz1 a l.length c 8 (by omega) hc
    replace hcut : ∀ W, (Instr.slice 22 (.slice a l.length c) (some (.int .i64 8)) none none).run Try.prog W = .ok (.slice a2 n2 c2) W := hcut
    have hl2 : (l.drop 8).length = n2 := by rw [List.length_drop, hn2]
    have hLL := Lib.hid fun (W0 : World) (h : Lst .u8 W0 a l) => hL2 .u8 W0 l rfl h
    go_enter Try.func20, Try.ntmps20
    go_wp2_with fail
    go_loopw [9, 10] (fun m i wr => ∃ k : Nat, k ≤ 8 ∧ i = .int .i64 k ∧ m = .int .u64 (beF 0 (l.take k)) ∧ Blk wr w.heap.size 53 #[.slice a l.length c, .int .i64 0] ∧ Blk wr (w.heap.size + 1 + 1) 53 #[.slice none 0 0, .int .i64 0] ∧ Below w.heap.size w wr) (fun _ i _ => 8 - (intOf i).toNat)
    case atStart => exact ⟨0, Nat.zero_le _, rfl, by simp [beF], (tri_rd w _ _).alloc _, (tri_res w _ _).alloc _, bthen (tri_below w _ _) (box_below _ _)⟩
    case round =>
      obtain ⟨k, hk, rfl, rfl, hb0, hb2, hbel⟩ := hrel
      have c0 : wr.cell? ⟨w.heap.size, 0, none⟩ = some (.slice a l.length c) := hb0.cell 0
      have c1 : wr.cell? ⟨w.heap.size, 1, none⟩ = some (.int .i64 0) := hb0.cell 1
      have d0 : wr.cell? ⟨w.heap.size + 1 + 1, 0, none⟩ = some (.slice none 0 0) := hb2.cell 0
      have d1 : wr.cell? ⟨w.heap.size + 1 + 1, 1, none⟩ = some (.int .i64 0) := hb2.cell 1
      have f0 := hb0.frozen 0
      have f2 := hb2.frozen 0
      have f3 := hb2.frozen 1
      by_cases hlt : k < 8
      · obtain ⟨v, hv⟩ := some_at l (i := k) (by omega)
        have hvb := hBy.at hv
        obtain ⟨be0, be1⟩ := be_small l k (by omega) hBy
        obtain ⟨b, off, ha, c2⟩ := hL.at hv
        have e0 := bsome hbel c2 (World.block_lt_of_cell? _ _ c2)
        subst ha
        have hltI : (k : Int) < 8 := by omega
        have hltL : (k : Int) < (l.length : Int) := by omega
        have htk : Hid (beF 0 (l.take (k + 1)) = beF 0 (l.take k) * 256 + v) := by show _ = _; rw [take_succ_at hv, beF_snoc]
        obtain ⟨hv0, hv1⟩ := hvb
        clear hv c2 hcut hL2
        go_wp2_with fail
        go_roundw
        case rel => exact ⟨k + 1, by omega, by go_num, by rw [htk.out], hb0, hb2, hbel⟩
        case measure => simp [intOf]; omega
      · have hk8 : k = 8 := by omega
        subst hk8
        have hcu := hcut
        clear hcut hL2
        go_wp2_with fail
        exact bodyPost_ret (v := .tuple #[.agg #[.slice a2 (l.length - 8) c2, .int .i64 0], .int .u64 (beF 0 (l.take 8)), .string ⟨#[]⟩]) (by simp [results, Try.results20, go_sem, d0, d1]) rfl ⟨a2, c2, by simp only [List.length_drop]; rfl, by show (l.drop 8).length ≤ c2; omega, Nat.le_trans hc3 hcm, hLL.out, res_set (Kept.below (S := fun j => j = w.heap.size) (Kept.of_set (S := fun j => j = w.heap.size) (p := ⟨w.heap.size, 0, none⟩) _ rfl) hbel (fun j hj => by omega)) _ _⟩
end Go.Proofs.Ytaekpejpcafnkaa.ww
