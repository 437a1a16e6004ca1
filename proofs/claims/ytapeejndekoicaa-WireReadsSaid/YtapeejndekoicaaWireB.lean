/-
  The walks of layer 3: the bytes of a field.
-/
import Derived.Test.YtapeejndekoicaaWireA
import Derived.Lib.AppendStr
import Derived.Deep.RegionHeld3
import Derived.Deep.DrawnRows
import Derived.Laws.MakeOwn
namespace Go.Proofs.Ytapeejndekoicaa.ww
open Go.RowKit Go.Proofs.Ytapeejndekoicaa.ba Go.Proofs.Ytapeejndekoicaa.dp Go.Proofs.Ytapeejndekoicaa.wp Go.Proofs.Ytapeejndekoicaa.dw
set_option linter.unusedVariables false
attribute [local go_sem ↓] Go.wp_at_zero Go.wp_at_succ

/-- A string's bytes. -/
def strL (s : ByteArray) : List Int := s.data.toList.map fun b => (b.toNat : Int)
theorem strL_len (s : ByteArray) : (strL s).length = s.size := by simp [strL]
theorem strL_cells (s : ByteArray) : Lib.strCells s = (strL s).map (Value.int .u8) := by simp [Lib.strCells, strL]

theorem step_append_str {P : Program} (w : World) {ops : Array Oper} {o : Oper} {a : Act} {K : Act → World → Prop} {Q : Exit → Act → World → Prop} {E : Prop} (hgd : o.guard = none) (sl x : Operand) (t u : TypeId)
    (ho : o.op = .call { callee := .builtin .append, args := #[sl, x], argTypes := #[t, u] })
    (base : Nat) (e : TypeId) (i : TypeInfo) (ht : P.underlying t = some (.slice e)) (hu : P.underlying u = some .string) (hi : P.info? e = some i) (hz : i.zero = some (.int .u8 0))
    (hsize : i.size = 1) (hby : i.bytes = 1)
    (v : Value) (n : Nat) (xs : List Value) (hs : a.eval sl = v) (hown : w.ownsRow base e 1 v n xs) (s : ByteArray) (hx : a.eval x = .string s)
    (h63 : n + s.size ≤ maxLen) (hbytes : n + s.size ≤ 140737488355328) (hbase : base ≤ w.heap.size)
    (h : ∀ v' w', w'.ownsRow base e 1 v' (n + s.size) (xs ++ Lib.strCells s) → w.grownBy w' v.ownBlock → K (a.put o.dst v') w') :
    if Region.wanted o (yielded ops a.tmps) = true then Oper.wp P o a w K Q else E := by
  have hw : Region.wanted o (yielded ops a.tmps) = true := by simp [Region.wanted, hgd]
  rw [if_pos hw]
  obtain ⟨v', w', hr, h2, h3, _⟩ := Lib.run_append_own_string (P := P) w base t u o.type e i ht hu hi hz hsize hby v n xs hown s h63 hbytes hbase
  unfold Oper.wp execOp
  simp only [ho, resolve, invoke, builtin, Sem.run_bind, Sem.run_pure, Result.andThen_ok, List.map_toArray, List.map_cons, List.map_nil, hs, hx, hr]
  exact h v' w' h2 h3

theorem made_byte (h : Nat) (x : Int) (w : World) (hc : w.cell? ⟨h, 0, none⟩ = some (.int .u8 x)) :
    Calls Try.prog 44 #[.pointer (some ⟨h, 0, none⟩)] w fun y w' => Made w w' [x] y := by
  go_enter Try.func44, Try.ntmps44
  go_wp2_with fail
  go_ret
  exact ⟨_, _, rfl, lst_new .u8 w [x] 5, (Below.refl _ _).alloc (Nat.le_refl _) _⟩

theorem run_make_rowN {P : Program} (t e : TypeId) (i : TypeInfo) (z : Value) (ht : P.underlying t = some (.slice e)) (hi : P.info? e = some i) (hz : i.zero = some z)
    (kl kc : IntKind) (n c : Nat) (hnc : n ≤ c) (hbytes : i.bytes * c ≤ 281474976710656) (h63 : c ≤ 9223372036854775807) (w : World) :
    (Instr.makeSlice t (.int kl (n : Int)) (.int kc (c : Int))).run P w = .ok (.slice (some ⟨w.heap.size, 0, none⟩) n c) (w.alloc (.cells (madeCells z.cells (c * i.size)) e)) := by
  have hb : (i.bytes : Int) * (c : Int) ≤ 281474976710656 := by
    have h : ((i.bytes * c : Nat) : Int) ≤ 281474976710656 := by omega
    rwa [Int.natCast_mul] at h
  have hr := run_make (P := P) w t e i z ht hi hz kl kc n c (by omega) (by omega) hb (by omega)
  simp only [Int.toNat_natCast] at hr
  exact hr
theorem p256 (s : Nat) : (256 : Nat) ^ s = 2 ^ (8 * s) := by rw [Nat.pow_mul]
theorem fill_step (n s k : Nat) (hk : k < s) : ((List.replicate (s - k) (0 : Int)) ++ beB n k).set (s - 1 - k) ((n / 256 ^ k % 256 : Nat) : Int) = List.replicate (s - (k + 1)) 0 ++ beB n (k + 1) := by
  have e : s - k = (s - (k + 1)) + 1 := by omega
  rw [e, List.replicate_succ', List.append_assoc, List.set_append_right _ _ (by simp; omega), show s - 1 - k - (List.replicate (s - (k + 1)) (0 : Int)).length = 0 from by simp; omega]
  rfl

set_option maxHeartbeats 1000000 in
theorem high_any (n s : Nat) (w : World) (hn : n < 18446744073709551616) (hs : s ≤ 8) (hs0 : 1 ≤ s) :
    Calls Try.prog 40 #[.int .u64 n, .int .i64 s] w fun y w' => Made w w' (beB n s) y := by
  obtain ⟨i0, hi, hz0, hz1, hz2⟩ := info_parts info5
  have hmk : ∀ W : World, (Instr.makeSlice 30 (.int .i64 (s : Int)) (.int .i64 (s : Int))).run Try.prog W = .ok (.slice (some ⟨W.heap.size, 0, none⟩) s s) (W.alloc (.cells ((List.replicate s (0 : Int)).map (Value.int .u8)).toArray 5)) := by
    intro W
    have h := run_make_rowN (P := Try.prog) 30 5 i0 (.int .u8 0) Try.underlying30 hi hz0 .i64 .i64 s s (Nat.le_refl _) (by rw [hz2]; omega) (by omega) W
    rw [h, hz1, Nat.mul_one]
    have e : madeCells (Value.int .u8 0).cells s = ((List.replicate s (0 : Int)).map (Value.int .u8)).toArray := by
      apply Array.toList_inj.1
      rw [show (Value.int IntKind.u8 0).cells = #[.int .u8 0] from rfl, toList_madeCells_one]
      simp
    rw [e]
  go_enter Try.func40, Try.ntmps40
  go_wp2_with fail
  go_loopw [10] (fun i wr => ∃ k : Nat, k ≤ s ∧ i = .int .i64 k ∧ Blk wr w.heap.size 5 ((List.replicate (s - k) (0 : Int) ++ beB n k).map (Value.int .u8)).toArray ∧ Below w.heap.size w wr) (fun i _ => s - (intOf i).toNat)
  case atStart => exact ⟨0, Nat.zero_le _, rfl, by simpa [beB] using Blk.new w 5 ((List.replicate s (0 : Int)).map (Value.int .u8)).toArray, (Below.refl _ _).alloc (Nat.le_refl _) _⟩
  case round =>
    obtain ⟨k, hk, rfl, hB, hbel⟩ := hrel
    by_cases hlt : k < s
    · have hf := hB.frozen (s - 1 - k)
      have hlen : (List.replicate (s - k) (0 : Int) ++ beB n k).length = s := by simp [beB_len]; omega
      obtain ⟨u, hu⟩ := some_at (List.replicate (s - k) (0 : Int) ++ beB n k) (i := s - 1 - k) (by omega)
      have hc : wr.cell? ⟨w.heap.size, s - 1 - k, none⟩ = some (.int .u8 u) := by rw [hB.cell]; simp only [List.getElem?_toArray, List.getElem?_map, hu]; rfl
      have q1 : (0 : Int) ≤ (s : Int) - 1 - (k : Int) := by omega
      have q2 : (s : Int) - 1 - (k : Int) < (s : Int) := by omega
      have q3 : ((s : Int) - 1 - (k : Int)).toNat = s - 1 - k := by omega
      have hst := fill_step n s k hlt
      have HS := Lib.hid hst
      have HB := Lib.hid hB
      have hk7 : (k : Int) ≤ 7 := by omega
      clear hst hB hlen hu
      go_wp2_with fail
      go_roundw
      case rel =>
        refine ⟨k + 1, by omega, by go_num, ?_, hbel.setCell (Nat.le_refl _) _⟩
        have h1 := HB.out.set_ (s - 1 - k) (.int .u8 ((n / 256 ^ k % 256 : Nat) : Int))
        rw [← HS.out]
        rw [show ((n : Int) / 2 ^ (8 * k) % 256) = ((n / 256 ^ k % 256 : Nat) : Int) from by rw [p256]; simp]
        simpa [List.map_set] using h1
      case measure => simp [intOf]; omega
    · have : k = s := by omega
      subst this
      rw [show k - k = 0 from by omega] at hB
      simp only [List.replicate_zero, List.nil_append] at hB
      go_wp2_with fail
      go_ret
      refine ⟨_, _, by rw [beB_len]; rfl, .inr ⟨w.heap.size, 0, rfl, fun i v hv => ?_⟩, hbel⟩
      rw [hB.cell, Nat.zero_add]
      simp [hv]

theorem made_short (h n : Nat) (w : World) (hn : n ≤ 65535) (hc : w.cell? ⟨h, 0, none⟩ = some (.int .i64 n)) :
    Calls Try.prog 39 #[.pointer (some ⟨h, 0, none⟩)] w fun y w' => Made w w' (beB n 2) y := by
  have hh := high_any n 2 w (by omega) (by decide) (by decide)
  rw [show ((2 : Nat) : Int) = 2 from rfl] at hh
  have HH := Lib.hid hh
  clear hh
  go_enter Try.func39, Try.ntmps39
  go_wp2_with ((with_reducible refine HH.out.mono ?_); rintro x W1 ⟨a1, c1, rfl, hL1, hb1⟩)
  go_ret
  exact ⟨_, _, rfl, hL1, hb1⟩
theorem made_word (h n : Nat) (w : World) (hn : n < 18446744073709551616) (hc : w.cell? ⟨h, 0, none⟩ = some (.int .u64 n)) :
    Calls Try.prog 45 #[.pointer (some ⟨h, 0, none⟩)] w fun y w' => Made w w' (beB n 8) y := by
  have hh := high_any n 8 w (by omega) (by decide) (by decide)
  rw [show ((8 : Nat) : Int) = 8 from rfl] at hh
  have HH := Lib.hid hh
  clear hh
  go_enter Try.func45, Try.ntmps45
  go_wp2_with ((with_reducible refine HH.out.mono ?_); rintro x W1 ⟨a1, c1, rfl, hL1, hb1⟩)
  go_ret
  exact ⟨_, _, rfl, hL1, hb1⟩
theorem made_number (h n : Nat) (w : World) (hn : n < 18446744073709551616) (hc : w.cell? ⟨h, 0, none⟩ = some (.int .u64 n)) :
    Calls Try.prog 46 #[.pointer (some ⟨h, 0, none⟩)] w fun y w' => Made w w' (smaL n) y := by
  have hh := sma_one n hn w.heap.size w rfl
  have HH := Lib.hid hh
  clear hh
  go_enter Try.func46, Try.ntmps46
  go_wp2_with ((with_reducible refine HH.out.mono ?_); rintro x W1 ⟨a1, c1, rfl, hown1, hb1⟩)
  go_ret
  exact ⟨_, _, rfl, Lst.own hown1, hb1⟩

set_option maxHeartbeats 2000000 in
theorem made_text (h : Nat) (s : ByteArray) (w : World) (hs : s.size ≤ 1000000) (hc : w.cell? ⟨h, 0, none⟩ = some (.string s)) :
    Calls Try.prog 48 #[.pointer (some ⟨h, 0, none⟩)] w fun y w' => Made w w' (smaL s.size ++ strL s) y := by
  obtain ⟨i0, hi, hz0, hz1, hz2⟩ := info_parts info5
  have hlt := World.block_lt_of_cell? w _ hc
  have hwr : IntKind.u64.wrap (s.size : Int) = (s.size : Int) := IntWalk.u64_in _ ⟨by omega, by omega⟩
  have h0 := sma_one s.size (by omega) w.heap.size w.drew rfl
  have e0 : w.drew.alloc (.cells #[.int .u64 (s.size : Int)] 27) = (w.alloc (.cells #[.int .u64 (s.size : Int)] 27)).drew := rfl
  rw [e0] at h0
  have HH := Lib.hid h0
  clear e0 h0
  have hl10 := smaK_len 10 s.size
  have hA : (smaL s.size).length + s.size ≤ maxLen := by unfold maxLen smaL; omega
  have hA2 : (smaL s.size).length + s.size ≤ 140737488355328 := by unfold smaL; omega
  go_enter Try.func48, Try.ntmps48
  go_wp2_with fail
  go_region_held3 (fun w' => w'.cell? ⟨h, 0, none⟩ = some (.string s)) (first | assumption | go_keep)
    (first
      | (go_at_call 47; ((with_reducible refine HH.out.mono ?_); rintro x W1 ⟨a1, c1, rfl, hown0, hb0⟩; have hown1 : W1.ownsRow w.heap.size 5 1 (.slice a1 (smaL s.size).length c1) (smaL s.size).length ((smaL s.size).map (Value.int .u8)) := hown0; have hb1 : Below w.heap.size w W1 := ⟨hb0.os, hb0.tape, hb0.output, hb0.size, hb0.block⟩; clear hown0 hb0; have d1 := bsome hb1 hc hlt))
      | (refine step_append_str _ (by rfl) _ _ _ _ (by rfl) w.heap.size 5 i0 Try.underlying30 Try.underlying9 hi hz0 hz1 hz2 _ _ _ (by rfl) hown1 s (by rfl) hA hA2 hb1.size ?_; intro v3 W3 hown3 hg3; have d3 : W3.cell? ⟨h, 0, none⟩ = some (.string s) := (World.cell?_of_block (hg3.block h (Nat.lt_of_lt_of_le hlt hb1.size) (fun e => by have := hown1.lt h e.symm; omega))).trans d1)
      | fail)
  all_goals
    obtain ⟨a3, c3, hv3, _, _⟩ := own_form hown3
    subst hv3
    go_wp2_with fail
    go_ret
    rw [strL_cells, ← List.map_append] at hown3
    exact ⟨a3, c3, by rw [List.length_append, strL_len]; rfl, Lst.own hown3, hb1.grown hg3 hb1.size (fun j hj => (hown1.lt j hj).1)⟩
end Go.Proofs.Ytapeejndekoicaa.ww
