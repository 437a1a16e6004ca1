/-
  The walks of layer 3: the bytes of a field.
-/
import Derived.Test.YtaekpejpcafnkaaWireA
import Derived.Lib.AppendStr
import Derived.Deep.RegionHeld3
import Derived.Deep.DrawnRows
import Derived.Laws.MakeOwn
namespace Go.Proofs.Ytaekpejpcafnkaa.ww
open Go.RowKit Go.Proofs.Ytaekpejpcafnkaa.ba Go.Proofs.Ytaekpejpcafnkaa.dp Go.Proofs.Ytaekpejpcafnkaa.wp Go.Proofs.Ytaekpejpcafnkaa.dw
set_option maxRecDepth 8000
set_option linter.unusedVariables false
attribute [local go_sem ↓] Go.wp_at_zero Go.wp_at_succ

/-- A string's bytes. -/
def strL (s : ByteArray) : List Int := s.data.toList.map fun b => (b.toNat : Int)
theorem strL_len (s : ByteArray) : (strL s).length = s.size := by simp [strL]
theorem strL_cells (s : ByteArray) : Lib.strCells s = (strL s).map (Value.int .u8) := by simp [Lib.strCells, strL]

theorem step_append_str {P : Program} (w : World) {ops : Array Oper} {o : Oper} {a : Act} {K : Act → World → Prop} {Q : Exit → Act → World → Prop} {E : Prop} (hgd : o.guard = none) (sl x : Operand) (t u : TypeId)
    (ho : o.op = .call { callee := .builtin .append, args := #[sl, x], argTypes := #[t, u] })
    (base : Nat) (e : TypeId) (i : TypeInfo) (ht : P.underlying t = some (.slice e)) (hu : P.underlying u = some .string) (hi : P.info? e = some i) (hz : i.zero = some (.int .u8 0))
    (hsize : i.size = 1) (hby : i.bytes = 1)
    (v : Value) (n : Nat) (xs : List Value) (hs : a.eval sl = v) (hown : w.ownsRow base e 1 v n xs) (s : ByteArray) (hx : a.eval x = .string s)
    (h63 : n + s.size ≤ maxLen) (hbytes : n + s.size ≤ 140737488355328) (hbase : base ≤ w.heap.size)
    (h : ∀ v' w', w'.ownsRow base e 1 v' (n + s.size) (xs ++ Lib.strCells s) → w.grownBy w' v.ownBlock → K (a.put o.dst v') w') :
    if Region.wanted o (yielded ops a.tmps) = true then Oper.wp P o a w K Q else E := by
  have hw : Region.wanted o (yielded ops a.tmps) = true := by simp [Region.wanted, hgd]
  rw [if_pos hw]
  obtain ⟨v', w', hr, h2, h3, _⟩ := Lib.run_append_own_string (P := P) w base t u o.type e i ht hu hi hz hsize hby v n xs hown s h63 hbytes hbase
  unfold Oper.wp execOp
  simp only [ho, resolve, invoke, builtin, Sem.run_bind, Sem.run_pure, Result.andThen_ok, List.map_toArray, List.map_cons, List.map_nil, hs, hx, hr]
  exact h v' w' h2 h3

theorem made_byte (h : Nat) (x : Int) (w : World) (hc : w.cell? ⟨h, 0, none⟩ = some (.int .u8 x)) :
    Calls Try.prog 57 #[.pointer (some ⟨h, 0, none⟩)] w fun y w' => Made w w' [x] y := by
  go_enter Try.func57, Try.ntmps57
  go_wp2_with fail
  go_ret
  exact ⟨_, _, rfl, lst_new .u8 w [x] 5, (Below.refl _ _).alloc (Nat.le_refl _) _⟩

theorem run_make_rowN {P : Program} (t e : TypeId) (i : TypeInfo) (z : Value) (ht : P.underlying t = some (.slice e)) (hi : P.info? e = some i) (hz : i.zero = some z)
    (kl kc : IntKind) (n c : Nat) (hnc : n ≤ c) (hbytes : i.bytes * c ≤ 281474976710656) (h63 : c ≤ 9223372036854775807) (w : World) :
    (Instr.makeSlice t (.int kl (n : Int)) (.int kc (c : Int))).run P w = .ok (.slice (some ⟨w.heap.size, 0, none⟩) n c) (w.alloc (.cells (madeCells z.cells (c * i.size)) e)) := by
  have hb : (i.bytes : Int) * (c : Int) ≤ 281474976710656 := by
    have h : ((i.bytes * c : Nat) : Int) ≤ 281474976710656 := by omega
    rwa [Int.natCast_mul] at h
  have hr := run_make (P := P) w t e i z ht hi hz kl kc n c (by omega) (by omega) hb (by omega)
  simp only [Int.toNat_natCast] at hr
  exact hr
theorem p256 (s : Nat) : (256 : Nat) ^ s = 2 ^ (8 * s) := by rw [Nat.pow_mul]
theorem fill_step (n s k : Nat) (hk : k < s) : ((List.replicate (s - k) (0 : Int)) ++ beB n k).set (s - 1 - k) ((n / 256 ^ k % 256 : Nat) : Int) = List.replicate (s - (k + 1)) 0 ++ beB n (k + 1) := by
  have e : s - k = (s - (k + 1)) + 1 := by omega
  rw [e, List.replicate_succ', List.append_assoc, List.set_append_right _ _ (by simp; omega), show s - 1 - k - (List.replicate (s - (k + 1)) (0 : Int)).length = 0 from by simp; omega]
  rfl

theorem made_number (h n : Nat) (w : World) (hn : n < 18446744073709551616) (hc : w.cell? ⟨h, 0, none⟩ = some (.int .u64 n)) :
    Calls Try.prog 58 #[.pointer (some ⟨h, 0, none⟩)] w fun y w' => Made w w' (smaL n) y := by
  have hh := sma_one n hn w.heap.size w rfl
  have HH := Lib.hid hh
  clear hh
  go_enter Try.func58, Try.ntmps58
  go_wp2_with ((with_reducible refine HH.out.mono ?_); rintro x W1 ⟨a1, c1, rfl, hown1, hb1⟩)
  go_ret
  exact ⟨_, _, rfl, Lst.own hown1, hb1⟩

set_option maxHeartbeats 2000000 in
theorem made_text (h : Nat) (s : ByteArray) (w : World) (hs : s.size ≤ 1000000) (hc : w.cell? ⟨h, 0, none⟩ = some (.string s)) :
    Calls Try.prog 60 #[.pointer (some ⟨h, 0, none⟩)] w fun y w' => Made w w' (smaL s.size ++ strL s) y := by
  obtain ⟨i0, hi, hz0, hz1, hz2⟩ := info_parts info5
  have hlt := World.block_lt_of_cell? w _ hc
  have hwr : IntKind.u64.wrap (s.size : Int) = (s.size : Int) := IntWalk.u64_in _ ⟨by omega, by omega⟩
  have h0 := sma_one s.size (by omega) w.heap.size w.drew rfl
  have e0 : w.drew.alloc (.cells #[.int .u64 (s.size : Int)] 23) = (w.alloc (.cells #[.int .u64 (s.size : Int)] 23)).drew := rfl
  rw [e0] at h0
  have HH := Lib.hid h0
  clear e0 h0
  have hl10 := smaK_len 10 s.size
  have hA : (smaL s.size).length + s.size ≤ maxLen := by unfold maxLen smaL; omega
  have hA2 : (smaL s.size).length + s.size ≤ 140737488355328 := by unfold smaL; omega
  go_enter Try.func60, Try.ntmps60
  go_wp2_with fail
  go_region_held3 (fun w' => w'.cell? ⟨h, 0, none⟩ = some (.string s)) (first | assumption | go_keep)
    (first
      | (go_at_call 59; ((with_reducible refine HH.out.mono ?_); rintro x W1 ⟨a1, c1, rfl, hown0, hb0⟩; have hown1 : W1.ownsRow w.heap.size 5 1 (.slice a1 (smaL s.size).length c1) (smaL s.size).length ((smaL s.size).map (Value.int .u8)) := hown0; have hb1 : Below w.heap.size w W1 := ⟨hb0.os, hb0.tape, hb0.output, hb0.size, hb0.block⟩; clear hown0 hb0; have d1 := bsome hb1 hc hlt))
      | (refine step_append_str _ (by rfl) _ _ _ _ (by rfl) w.heap.size 5 i0 Try.underlying22 Try.underlying9 hi hz0 hz1 hz2 _ _ _ (by rfl) hown1 s (by rfl) hA hA2 hb1.size ?_; intro v3 W3 hown3 hg3; have d3 : W3.cell? ⟨h, 0, none⟩ = some (.string s) := (World.cell?_of_block (hg3.block h (Nat.lt_of_lt_of_le hlt hb1.size) (fun e => by have := hown1.lt h e.symm; omega))).trans d1)
      | fail)
  all_goals
    obtain ⟨a3, c3, hv3, _, _⟩ := own_form hown3
    subst hv3
    go_wp2_with fail
    go_ret
    rw [strL_cells, ← List.map_append] at hown3
    exact ⟨a3, c3, by rw [List.length_append, strL_len]; rfl, Lst.own hown3, hb1.grown hg3 hb1.size (fun j hj => (hown1.lt j hj).1)⟩
end Go.Proofs.Ytaekpejpcafnkaa.ww
