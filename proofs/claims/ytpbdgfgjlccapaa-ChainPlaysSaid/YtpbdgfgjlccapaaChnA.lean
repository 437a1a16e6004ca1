/-
  The walks of layer 12: versions in memory; slices.Backward over them.
-/
import Derived.Test.YtpbdgfgjlccapaaChnPlain
import Derived.Test.YtpbdgfgjlccapaaChnIter
import Derived.Test.YtpbdgfgjlccapaaRecF
namespace Go.Proofs.Ytpbdgfgjlccapaa.cw
open Go.RowKit Go.Shelf Go.Proofs.Ytpbdgfgjlccapaa.ba Go.Proofs.Ytpbdgfgjlccapaa.rp Go.Proofs.Ytpbdgfgjlccapaa.cp Go.Proofs.Ytpbdgfgjlccapaa.it
set_option maxRecDepth 8000
set_option linter.unusedVariables false
attribute [local go_sem] Oper.semAt_some

def vcells (v : V) : List Value := (#[.int .u64 v.a, .bool v.d, .int .u8 v.r.k, .int .u8 v.r.s, .int .u8 v.r.u, .int .u8 v.r.p, .int .u8 v.r.m, .bool v.r.g, .int .u32 v.r.v, .int .u64 v.r.a, .string v.r.t]).toList
/-- A version among many: its cells. -/
def VAt (w : World) (p : Addr) (v : V) : Prop :=
  w.cell? ⟨p.block, p.off, none⟩ = some (.int .u64 v.a) ∧ w.cell? ⟨p.block, p.off + 1, none⟩ = some (.bool v.d) ∧ w.cell? ⟨p.block, p.off + 2, none⟩ = some (.int .u8 v.r.k) ∧ w.cell? ⟨p.block, p.off + 3, none⟩ = some (.int .u8 v.r.s) ∧ w.cell? ⟨p.block, p.off + 4, none⟩ = some (.int .u8 v.r.u) ∧ w.cell? ⟨p.block, p.off + 5, none⟩ = some (.int .u8 v.r.p) ∧ w.cell? ⟨p.block, p.off + 6, none⟩ = some (.int .u8 v.r.m) ∧ w.cell? ⟨p.block, p.off + 7, none⟩ = some (.bool v.r.g) ∧ w.cell? ⟨p.block, p.off + 8, none⟩ = some (.int .u32 v.r.v) ∧ w.cell? ⟨p.block, p.off + 9, none⟩ = some (.int .u64 v.r.a) ∧ w.cell? ⟨p.block, p.off + 10, none⟩ = some (.string v.r.t)
/-- Versions in memory. -/
def VL (w : World) (a : Option Addr) (L : List V) : Prop :=
  L = [] ∨ ∃ b off, a = some ⟨b, off, none⟩ ∧ ∀ i v, L[i]? = some v → VAt w ⟨b, off + i * 11, none⟩ v

theorem VAt.kept {w w' : World} {p : Addr} {v : V} (h : VAt w p v) (k : CellsKept w w') : VAt w' p v := by
  obtain ⟨c0, c1, c2, c3, c4, c5, c6, c7, c8, c9, c10⟩ := h
  exact ⟨k.cell c0, k.cell c1, k.cell c2, k.cell c3, k.cell c4, k.cell c5, k.cell c6, k.cell c7, k.cell c8, k.cell c9, k.cell c10⟩
theorem VAt.below {w w' : World} {p : Addr} {v : V} (h : VAt w p v) (hb : Below w.heap.size w w') : VAt w' p v := by
  have hlt := World.block_lt_of_cell? _ _ h.1
  obtain ⟨c0, c1, c2, c3, c4, c5, c6, c7, c8, c9, c10⟩ := h
  exact ⟨bsome hb c0 hlt, bsome hb c1 hlt, bsome hb c2 hlt, bsome hb c3 hlt, bsome hb c4 hlt, bsome hb c5 hlt, bsome hb c6 hlt, bsome hb c7 hlt, bsome hb c8 hlt, bsome hb c9 hlt, bsome hb c10 hlt⟩
theorem VL.kept {w w' : World} {a : Option Addr} {L : List V} (h : VL w a L) (k : CellsKept w w') : VL w' a L := by
  rcases h with h | ⟨b, off, rfl, h⟩
  · exact .inl h
  · exact .inr ⟨b, off, rfl, fun i v hv => (h i v hv).kept k⟩
theorem VL.below {w w' : World} {a : Option Addr} {L : List V} (h : VL w a L) (hb : Below w.heap.size w w') : VL w' a L := by
  rcases h with h | ⟨b, off, rfl, h⟩
  · exact .inl h
  · exact .inr ⟨b, off, rfl, fun i v hv => (h i v hv).below hb⟩

/-- What yield is handed. -/
def encV (x : Nat × V) : Array Value := #[.int .i64 (x.1 : Int), .agg #[.int .u64 x.2.a, .bool x.2.d, .int .u8 x.2.r.k, .int .u8 x.2.r.s, .int .u8 x.2.r.u, .int .u8 x.2.r.p, .int .u8 x.2.r.m, .bool x.2.r.g, .int .u32 x.2.r.v, .int .u64 x.2.r.a, .string x.2.r.t]]

set_option maxRecDepth 100000 in
set_option maxHeartbeats 2000000 in
/-- slices.Backward's closure. -/
theorem bk1_in (F : Fence) (n : Nat) (h40 : F.fn 40) (hro : F.round = none) (hn : 1 ≤ n) (l Bs : Nat) (a : Option Addr) (cap : Nat) (L : List V) (hreach : L.length ≤ 1000000) (J Jx : List (Nat × V) → World → Prop)
    (hY : ∀ pre x W, J pre W → pre.length < L.length → YieldAt F (n - 1) Try.prog l (encV x) W fun e W' =>
      (e = .returned (.bool true) ∧ J (pre ++ [x]) W' ∧ CellsKept W W') ∨ (e = .returned (.bool false) ∧ Jx (pre ++ [x]) W'))
    (W : World) (hBs : W.cell? ⟨Bs, 0, none⟩ = some (.slice a L.length cap)) (hc : VL W a L) (h0 : J [] W) :
    CallsIn F n Try.prog 40 #[.func (.yield l) #[] #[], .pointer (some ⟨Bs, 0, none⟩)] W fun e W' => (∃ v, e = .returned v) ∧
      (J (come L 0) W' ∨ ∃ m, m ≤ L.length ∧ Jx (come L m) W') := by
  refine callsIn_of_wp Try.func40 rfl h40 ?_ hro
  simp only [Try.ntmps40, List.size_toArray, List.length_cons, List.length_nil, Nat.reduceAdd, Nat.reduceSub, Array.replicate_succ, Array.replicate_zero, List.push_toArray, List.append_toArray, List.nil_append, List.cons_append]
  gi_wp2
  gi_loopw [3] (fun i wr => ∃ m : Nat, m ≤ L.length ∧ i = .int .i64 ((m : Int) - 1) ∧ J (come L m) wr ∧ CellsKept W wr)
    (fun i _ => (intOf i + 1).toNat)
  case atStart => exact ⟨L.length, Nat.le_refl _, by go_num, by rw [come_all]; exact h0, CellsKept.refl _⟩
  case round =>
    obtain ⟨m, hm, rfl, hJs, hck⟩ := hrel
    have hBs' := hck.cell hBs
    rcases m with _ | m
    · have hneg : ((0 : Nat) : Int) - 1 = -1 := by omega
      rw [hneg]
      gi_wp2
      go_end0
      exact ⟨⟨_, rfl⟩, .inl hJs⟩
    · have hpos : ((m + 1 : Nat) : Int) - 1 = (m : Int) := by omega
      rw [hpos]
      obtain ⟨v, hv⟩ : ∃ v, L[m]? = some v := ⟨_, List.getElem?_eq_getElem (by omega)⟩
      rcases hc with h | ⟨b, off, rfl, hc⟩
      · subst h; simp at hm
      obtain ⟨c0, c1, c2, c3, c4, c5, c6, c7, c8, c9, c10⟩ := (hc m v hv).kept hck
      obtain ⟨fn, tmps, assign, body, hy, hR⟩ := hY _ (m, v) wr hJs (by rw [come_length]; omega)
      dsimp only [encV] at hy
      have hlt : m < L.length := by omega
      have hlti : (m : Int) < (L.length : Int) := by omega
      gi_wp2
      refine hR.mono ?_
      rintro e W3 (⟨rfl, hJ3, hk3⟩ | ⟨rfl, hJx3⟩)
      · gi_wp2
        go_roundw
        case rel => exact ⟨m, by omega, by go_num, by rw [come_step L m v hv]; exact hJ3, hck.trans hk3⟩
        case measure => simp [intOf]
      · gi_wp2
        refine bodyPost_ret (results_none rfl _ _ _) rfl ?_
        exact ⟨⟨_, rfl⟩, .inr ⟨m, by omega, by rw [come_step L m v hv]; exact hJx3⟩⟩

set_option maxHeartbeats 1000000 in
/-- slices.Backward. -/
theorem bk_in (F : Fence) (n : Nat) (h36 : F.fn 36) (hro : F.round = none) (a : Option Addr) (len cap : Nat) (w : World) :
    CallsIn F n Try.prog 36 #[.slice a len cap] w fun e w' => e = .returned (.func (.func 40) #[] #[.pointer (some ⟨w.heap.size, 0, none⟩)]) ∧ w' = w.alloc (.cells #[.slice a len cap] 22) := by
  refine callsIn_of_wp Try.func36 rfl h36 ?_ hro
  simp only [Try.ntmps36, List.size_toArray, List.length_cons, List.length_nil, Nat.reduceAdd, Nat.reduceSub, Array.replicate_succ, Array.replicate_zero, List.push_toArray, List.append_toArray, List.nil_append, List.cons_append]
  gi_wp2
  go_ret
  exact ⟨rfl, rfl⟩
end Go.Proofs.Ytpbdgfgjlccapaa.cw
