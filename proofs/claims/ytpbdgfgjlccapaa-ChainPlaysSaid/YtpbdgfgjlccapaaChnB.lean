/-
  The walks of layer 12: Chain's back: an iterator over an iterator.
-/
import Derived.Test.YtpbdgfgjlccapaaChnA
namespace Go.Proofs.Ytpbdgfgjlccapaa.cw
open Go.RowKit Go.Shelf Go.Proofs.Ytpbdgfgjlccapaa.ba Go.Proofs.Ytpbdgfgjlccapaa.rp Go.Proofs.Ytpbdgfgjlccapaa.cp Go.Proofs.Ytpbdgfgjlccapaa.it
set_option maxRecDepth 8000
set_option linter.unusedVariables false
attribute [local go_sem] Oper.semAt_some

theorem grown_new (W : World) (o : Obj) : W.grownBy (W.alloc o) none := World.grownBy_alloc W o none
theorem grown_set {W W' : World} (h : W.grownBy W' none) {p : Addr} (hp : W.heap.size ≤ p.block) (u : Value) : W.grownBy (W'.setCell p u) none :=
  ⟨h.os, h.tape, h.output, by simpa [World.setCell] using h.size, fun k hk hn => (Below.heap_setCell W' p u k (by omega)).trans (h.block k hk hn)⟩
theorem grown_cells {W W' : World} (h : W.grownBy W' none) : CellsKept W W' := (CellsKept.refl W).grown h (fun r e => by cases e)
theorem grown_others {W W' : World} (h : W.grownBy W' none) : KeepsOthers W W' := KeepsOthers.of_grownBy h (fun r o e => by cases e)
theorem grown_own {β : Type} {B : Nat} {I : β → World → Prop} {s : β} {W W' : World} (hI : OwnFrom B I) (hs : I s W) (h : W.grownBy W' none) : I s W' := hI s W W' none hs h (fun r e => by cases e)

theorem cnew (W : World) (v : Value) (t : TypeId) : (W.alloc (.cells #[v] t)).cell? ⟨W.heap.size, 0, none⟩ = some v := (cell_of_row _ _ 0 _ _ _ (heap_alloc_new W _)).trans rfl
theorem calloc {W : World} {p : Addr} {v : Value} (o : Obj) (h : W.cell? p = some v) : (W.alloc o).cell? p = some v := (grown_cells (grown_new W o)).cell h

theorem vat_new (W : World) (v : V) : VAt (W.alloc (.cells (#[.int .u64 v.a, .bool v.d, .int .u8 v.r.k, .int .u8 v.r.s, .int .u8 v.r.u, .int .u8 v.r.p, .int .u8 v.r.m, .bool v.r.g, .int .u32 v.r.v, .int .u64 v.r.a, .string v.r.t]) 43)) ⟨W.heap.size, 0, none⟩ v := by
  have h := fun i => cell_of_row (W.alloc (.cells (#[.int .u64 v.a, .bool v.d, .int .u8 v.r.k, .int .u8 v.r.s, .int .u8 v.r.u, .int .u8 v.r.p, .int .u8 v.r.m, .bool v.r.g, .int .u32 v.r.v, .int .u64 v.r.a, .string v.r.t]) 43)) W.heap.size i _ _ _ (heap_alloc_new W _)
  exact ⟨h 0, h 1, h 2, h 3, h 4, h 5, h 6, h 7, h 8, h 9, h 10⟩

/-- slices.Backward hands back a value that .. -/
theorem bk_stops (F : Fence) (n : Nat) (h40 : F.fn 40) (hro : F.round = none) (hn : 1 ≤ n) (Bs : Nat) (a : Option Addr) (cap : Nat) (L : List V) (hreach : L.length ≤ 1000000) (w : World)
    (hBs : w.cell? ⟨Bs, 0, none⟩ = some (.slice a L.length cap)) (hc : VL w a L) :
    SeqStopsK F n Try.prog 40 #[.pointer (some ⟨Bs, 0, none⟩)] encV CellsKept (fun ys => ys = come L 0) (fun pre => ∃ m, m ≤ L.length ∧ pre = come L m) L.length w := fun l J Jx W hW _ _ hY h0 => by
  refine (bk1_in F n h40 hro hn l Bs a cap L hreach J Jx hY W (bsome hW hBs (World.block_lt_of_cell? _ _ hBs)) (hc.below hW) h0).mono ?_
  rintro e W' ⟨he, hj | ⟨m, hm, hj⟩⟩
  · exact ⟨he, .inl ⟨_, rfl, hj⟩⟩
  · exact ⟨he, .inr ⟨_, ⟨m, hm, rfl⟩, hj⟩⟩

set_option maxHeartbeats 1000000 in
/-- Chain.back. -/
theorem back_in (F : Fence) (n : Nat) (h29 : F.fn 29) (hro : F.round = none) (p : Option Addr) (w : World) :
    CallsIn F n Try.prog 29 #[.pointer p] w fun e w' => e = .returned (.func (.func 35) #[] #[.pointer (some ⟨w.heap.size, 0, none⟩)]) ∧ w' = w.alloc (.cells #[.pointer p] 25) := by
  refine callsIn_of_wp Try.func29 rfl h29 ?_ hro
  simp only [Try.ntmps29, List.size_toArray, List.length_cons, List.length_nil, Nat.reduceAdd, Nat.reduceSub, Array.replicate_succ, Array.replicate_zero, List.push_toArray, List.append_toArray, List.nil_append, List.cons_append]
  gi_wp2
  go_ret
  exact ⟨rfl, rfl⟩

set_option maxHeartbeats 2000000 in
/-- .. a nil chain's. -/
theorem back1_nil (F : Fence) (n : Nat) (h35 : F.fn 35) (hro : F.round = none) (Bc : Nat) (w : World) (hBc : w.cell? ⟨Bc, 0, none⟩ = some (.pointer none)) :
    SeqO F n Try.prog 35 #[.pointer (some ⟨Bc, 0, none⟩)] encV (fun ys => ys = []) (fun pre => False) 0 w := fun l J Jx W hW hJ hJx hY h0 => by
  have hBc' := bsome hW hBc (World.block_lt_of_cell? _ _ hBc)
  have hlt := World.block_lt_of_cell? _ _ hBc'
  refine callsIn_of_wp Try.func35 rfl h35 ?_ hro
  simp only [Try.ntmps35, List.size_toArray, List.length_cons, List.length_nil, Nat.reduceAdd, Nat.reduceSub, Array.replicate_succ, Array.replicate_zero, List.push_toArray, List.append_toArray, List.nil_append, List.cons_append]
  gi_wp2
  refine bodyPost_ret (results_none rfl _ _ _) rfl ?_
  exact ⟨⟨_, rfl⟩, grown_own hJ h0 (grown_new _ _)⟩

set_option maxRecDepth 100000 in
set_option maxHeartbeats 4000000 in
/-- .. a chain's. -/
theorem back1_seq (F : Fence) (n : Nat) (hd : F.depth = none) (h35 : F.fn 35) (h36 : F.fn 36) (h40 : F.fn 40)
    (hro : F.round = none) (hn : 3 ≤ n) (Bc g o cap : Nat) (a : Option Addr) (L : List V) (hreach : L.length ≤ 1000000) (w : World) (hBc : w.cell? ⟨Bc, 0, none⟩ = some (.pointer (some ⟨g, o, none⟩)))
    (hg : w.cell? ⟨g, o, none⟩ = some (.slice a L.length cap)) (hL : VL w a L) :
    SeqO F n Try.prog 35 #[.pointer (some ⟨Bc, 0, none⟩)] encV (fun ys => ys = come L 0) (fun pre => ∃ m, m ≤ L.length ∧ pre = come L m) L.length w := fun l J Jx W hW hJ hJx hY h0 => by
  have hBc' := bsome hW hBc (World.block_lt_of_cell? _ _ hBc)
  have hltc := World.block_lt_of_cell? _ _ hBc'
  have hg' := bsome hW hg (World.block_lt_of_cell? _ _ hg)
  have hltg := World.block_lt_of_cell? _ _ hg'
  have hL' := hL.below hW
  have h1 : 1 ≤ n := by omega
  have hdd : ∀ k : Nat, F.depth.isSome = true → 1 ≤ k := fun k h => by rw [hd] at h; cases h
  refine callsIn_of_wp_marks Try.func35 rfl h35 ?_ hro
  simp only [Try.ntmps35, List.size_toArray, List.length_cons, List.length_nil, Nat.reduceAdd, Nat.reduceSub, Array.replicate_succ, Array.replicate_zero, List.push_toArray, List.append_toArray, List.nil_append, List.cons_append]
  gi_wp2_with (gi_at_call 36; refine (bk_in F (n - 1) h36 hro _ _ _ _).mono ?_; rintro e w' ⟨rfl, rfl⟩)
  have hy0 := cnew W (.func (.yield l) #[] #[]) 80
  have hs0 := cnew (W.alloc (.cells #[.func (.yield l) #[] #[]] 80)) (.slice a L.length cap) 22
  rw [World.size_alloc] at hs0
  have hb0 : Below W.heap.size W ((W.alloc (.cells #[.func (.yield l) #[] #[]] 80)).alloc (.cells #[.slice a L.length cap] 22)) := ((Below.refl _ W).alloc (Nat.le_refl _) _).alloc (by simp) _
  refine wpIn_rangeFunc_ownH hro h1 (gf := 40) (lb := #[.pointer (some ⟨W.heap.size + 1, 0, none⟩)]) rfl h40 (enters_of Try.func40 (by kernel_rfl) rfl)
    (bk_stops F (n - 1) h40 hro (by omega) (W.heap.size + 1) a cap L hreach _ hs0 (hL'.below hb0)) (fun h k => h.trans k) (fun W2 k o1 o2 _ h hc _ => CellsKept.putObj o2 h hc) (Below.refl _ _) (fun _ => rfl)
    (fun pre W2 => J pre W2 ∧ W2.cell? ⟨W.heap.size, 0, none⟩ = some (.func (.yield l) #[] #[]))
    (fun c pre W2 => c = .ret ∧ Jx pre W2)
    ((ownfrom_mono hJ hb0.size).and (ownfrom_cell _ _ (fun _ => _)))
    (fun c s A B row hs hgr hr => ⟨hs.1, (ownfrom_mono hJx hb0.size) s A B row hs.2 hgr hr⟩)
    ⟨hJ.alloc _ (hJ.alloc _ h0), calloc _ hy0⟩
    (fun x a' W2 => ∃ Bx, VAt W2 ⟨Bx, 0, none⟩ x.2 ∧ a' = { tmps := #[.func (.yield l) #[] #[], .pointer (some ⟨Bc, 0, none⟩), .pointer (some ⟨W.heap.size, 0, none⟩), .int .i64 (x.1 : Int), .pointer (some ⟨Bx, 0, none⟩), .pointer (some ⟨g, o, none⟩), .bool false, .pointer (some ⟨g, o, none⟩), .pointer (some ⟨g, o, none⟩), .pointer (some ⟨g, o, none⟩), .slice a L.length cap, .func (.func 40) #[] #[.pointer (some ⟨W.heap.size + 1, 0, none⟩)], .int .i64 (x.1 : Int), .agg #[.int .u64 x.2.a, .bool x.2.d, .int .u8 x.2.r.k, .int .u8 x.2.r.s, .int .u8 x.2.r.u, .int .u8 x.2.r.p, .int .u8 x.2.r.m, .bool x.2.r.g, .int .u32 x.2.r.v, .int .u64 x.2.r.a, .string x.2.r.t], undef, undef, undef, undef, undef], defers := [] })
    (fun x a' s A B row hs hgr hr => by
      obtain ⟨Bx, hv, he⟩ := hs
      exact ⟨Bx, hv.kept ((CellsKept.refl A).grown hgr (fun r e => (hr r e).2)), he⟩) ?assign ?body ?done ?stop
  case assign =>
    intro l2 pre x W2 K hi hK
    obtain ⟨i, v⟩ := x
    dsimp only [encV]
    gi_wp2
    have hgr := grown_new W2 (.cells (#[.int .u64 v.a, .bool v.d, .int .u8 v.r.k, .int .u8 v.r.s, .int .u8 v.r.u, .int .u8 v.r.p, .int .u8 v.r.m, .bool v.r.g, .int .u32 v.r.v, .int .u64 v.r.a, .string v.r.t]) 43)
    exact hK _ _ ((grown_others hgr).from _) (grown_cells hgr) ⟨grown_own hJ hi.1 hgr, calloc _ hi.2⟩ ⟨W2.heap.size, vat_new W2 v, rfl⟩
  case body =>
    rintro l2 pre ⟨i, v⟩ a' W2 hl ⟨r, hr⟩ ⟨hj, hyc⟩ ⟨Bx, hv, rfl⟩ hlt
    obtain ⟨fn, tmps, assign, body, hy, hR⟩ := hY pre (i, v) W2 hj hlt
    obtain ⟨c0, c1, c2, c3, c4, c5, c6, c7, c8, c9, c10⟩ := hv
    dsimp only [encV] at hy
    gi_wp2_with (refine (round_any hd hR).mono ?_; clear hR; rintro e W3 (⟨rfl, hj3, hc3, hk3⟩ | ⟨rfl, hj3, hk3⟩))
    · exact ⟨keeps_mono hk3 hb0.size, hc3, hj3, hc3.cell hyc⟩
    · exact ⟨keeps_mono hk3 hb0.size, rfl, hj3⟩
  case done =>
    rintro D ys W2 hD rfl ⟨hj, _⟩ hK
    gi_wp2
    refine ⟨by simp, .inl ⟨_, _, rfl, run_takeDeferred hK, ?_⟩⟩
    exact ⟨_, results_none rfl _ _ _, ⟨_, rfl⟩, .inl ⟨_, rfl, hJ.putObj _ hj (Nat.le_trans hb0.size hD) hK rfl⟩⟩
  case stop =>
    rintro D c pre W2 hD ⟨m, hm, rfl⟩ ⟨rfl, hjx⟩ hK
    gi_wp2
    refine ⟨by simp, .inl ⟨_, _, rfl, run_takeDeferred hK, ?_⟩⟩
    exact ⟨_, results_none rfl _ _ _, ⟨_, rfl⟩, .inr ⟨_, ⟨m, hm, rfl⟩, hJx.putObj _ hjx (Nat.le_trans hb0.size hD) hK rfl⟩⟩
end Go.Proofs.Ytpbdgfgjlccapaa.cw
