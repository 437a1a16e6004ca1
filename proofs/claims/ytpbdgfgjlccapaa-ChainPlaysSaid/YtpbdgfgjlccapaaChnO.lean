/-
  The walks of layer 12's document: a version as the document's; Newest; Put.
-/
import Derived.Test.YtpbdgfgjlccapaaChnN
import Derived.Deep.RegionHeld3
namespace Go.Proofs.Ytpbdgfgjlccapaa.cw
open Go.RowKit Go.Proofs.Ytpbdgfgjlccapaa.ba Go.Proofs.Ytpbdgfgjlccapaa.rp Go.Proofs.Ytpbdgfgjlccapaa.rw Go.Proofs.Ytpbdgfgjlccapaa.cp
set_option maxRecDepth 8000
set_option linter.unusedVariables false
attribute [local go_sem ↓] Go.wp_at_zero Go.wp_at_succ

theorem elev_blk {v : V} {W : World} {g : Nat} {t : TypeId} (h : Blk W g t (#[.int .u64 v.a, .bool v.d, .int .u8 v.r.k, .int .u8 v.r.s, .int .u8 v.r.u, .int .u8 v.r.p, .int .u8 v.r.m, .bool v.r.g, .int .u32 v.r.v, .int .u64 v.r.a, .string v.r.t])) : (W.cell? ⟨g, 0, none⟩ = some (.int .u64 v.a) ∧ W.cell? ⟨g, 1, none⟩ = some (.bool v.d) ∧ W.cell? ⟨g, 2, none⟩ = some (.int .u8 v.r.k) ∧ W.cell? ⟨g, 3, none⟩ = some (.int .u8 v.r.s) ∧ W.cell? ⟨g, 4, none⟩ = some (.int .u8 v.r.u) ∧ W.cell? ⟨g, 5, none⟩ = some (.int .u8 v.r.p) ∧ W.cell? ⟨g, 6, none⟩ = some (.int .u8 v.r.m) ∧ W.cell? ⟨g, 7, none⟩ = some (.bool v.r.g) ∧ W.cell? ⟨g, 8, none⟩ = some (.int .u32 v.r.v) ∧ W.cell? ⟨g, 9, none⟩ = some (.int .u64 v.r.a) ∧ W.cell? ⟨g, 10, none⟩ = some (.string v.r.t)) :=
  ⟨h.cell 0, h.cell 1, h.cell 2, h.cell 3, h.cell 4, h.cell 5, h.cell 6, h.cell 7, h.cell 8, h.cell 9, h.cell 10⟩
theorem delev_blk {v : V} {W : World} {g : Nat} {t : TypeId} (h : Blk W g t (#[.int .u64 v.a, .bool v.d, .int .i64 v.r.k, .int .i64 v.r.s, .int .i64 v.r.u, .int .i64 v.r.p, .int .i64 v.r.m, .bool v.r.g, .int .u64 v.r.v, .int .u64 v.r.a, .string v.r.t])) : (W.cell? ⟨g, 0, none⟩ = some (.int .u64 v.a) ∧ W.cell? ⟨g, 1, none⟩ = some (.bool v.d) ∧ W.cell? ⟨g, 2, none⟩ = some (.int .i64 v.r.k) ∧ W.cell? ⟨g, 3, none⟩ = some (.int .i64 v.r.s) ∧ W.cell? ⟨g, 4, none⟩ = some (.int .i64 v.r.u) ∧ W.cell? ⟨g, 5, none⟩ = some (.int .i64 v.r.p) ∧ W.cell? ⟨g, 6, none⟩ = some (.int .i64 v.r.m) ∧ W.cell? ⟨g, 7, none⟩ = some (.bool v.r.g) ∧ W.cell? ⟨g, 8, none⟩ = some (.int .u64 v.r.v) ∧ W.cell? ⟨g, 9, none⟩ = some (.int .u64 v.r.a) ∧ W.cell? ⟨g, 10, none⟩ = some (.string v.r.t)) :=
  ⟨h.cell 0, h.cell 1, h.cell 2, h.cell 3, h.cell 4, h.cell 5, h.cell 6, h.cell 7, h.cell 8, h.cell 9, h.cell 10⟩
theorem frz_blk {W : World} {g : Nat} {t : TypeId} {cs : Array Value} (h : Blk W g t cs) : (W.frozen? ⟨g, 0, none⟩ = false ∧ W.frozen? ⟨g, 1, none⟩ = false ∧ W.frozen? ⟨g, 2, none⟩ = false ∧ W.frozen? ⟨g, 3, none⟩ = false ∧ W.frozen? ⟨g, 4, none⟩ = false ∧ W.frozen? ⟨g, 5, none⟩ = false ∧ W.frozen? ⟨g, 6, none⟩ = false ∧ W.frozen? ⟨g, 7, none⟩ = false ∧ W.frozen? ⟨g, 8, none⟩ = false ∧ W.frozen? ⟨g, 9, none⟩ = false ∧ W.frozen? ⟨g, 10, none⟩ = false) :=
  ⟨h.frozen _, h.frozen _, h.frozen _, h.frozen _, h.frozen _, h.frozen _, h.frozen _, h.frozen _, h.frozen _, h.frozen _, h.frozen _⟩
theorem elev_below {w W : World} {B g : Nat} (h : Below B w W) (hg : B ≤ g) (a b c d e f i j k l m : Value) : Below B w (((((((((((W.setCell ⟨g, 0, none⟩ a).setCell ⟨g, 1, none⟩ b).setCell ⟨g, 2, none⟩ c).setCell ⟨g, 3, none⟩ d).setCell ⟨g, 4, none⟩ e).setCell ⟨g, 5, none⟩ f).setCell ⟨g, 6, none⟩ i).setCell ⟨g, 7, none⟩ j).setCell ⟨g, 8, none⟩ k).setCell ⟨g, 9, none⟩ l).setCell ⟨g, 10, none⟩ m) :=
  ((((((((((h.setCell (p := ⟨g, 0, none⟩) hg a).setCell (p := ⟨g, 1, none⟩) hg b).setCell (p := ⟨g, 2, none⟩) hg c).setCell (p := ⟨g, 3, none⟩) hg d).setCell (p := ⟨g, 4, none⟩) hg e).setCell (p := ⟨g, 5, none⟩) hg f).setCell (p := ⟨g, 6, none⟩) hg i).setCell (p := ⟨g, 7, none⟩) hg j).setCell (p := ⟨g, 8, none⟩) hg k).setCell (p := ⟨g, 9, none⟩) hg l).setCell (p := ⟨g, 10, none⟩) hg m
theorem elev_set {W : World} {g : Nat} {t : TypeId} (c0 c1 c2 c3 c4 c5 c6 c7 c8 c9 c10 a b c d e f i j k l m : Value) (h : Blk W g t #[c0, c1, c2, c3, c4, c5, c6, c7, c8, c9, c10]) : Blk (((((((((((W.setCell ⟨g, 0, none⟩ a).setCell ⟨g, 1, none⟩ b).setCell ⟨g, 2, none⟩ c).setCell ⟨g, 3, none⟩ d).setCell ⟨g, 4, none⟩ e).setCell ⟨g, 5, none⟩ f).setCell ⟨g, 6, none⟩ i).setCell ⟨g, 7, none⟩ j).setCell ⟨g, 8, none⟩ k).setCell ⟨g, 9, none⟩ l).setCell ⟨g, 10, none⟩ m) g t #[a, b, c, d, e, f, i, j, k, l, m] := by
  have := ((((((((((h.set_ 0 a).set_ 1 b).set_ 2 c).set_ 3 d).set_ 4 e).set_ 5 f).set_ 6 i).set_ 7 j).set_ 8 k).set_ 9 l).set_ 10 m
  simpa only [List.setIfInBounds_toArray, List.set_cons_zero, List.set_cons_succ] using this
set_option maxRecDepth 100000 in
set_option maxHeartbeats 4000000 in
theorem vof_any (v : V) (w : World) (hv : v.ok) :
    Calls Try.prog 18 #[.agg #[.int .u64 v.a, .bool v.d, .int .u8 v.r.k, .int .u8 v.r.s, .int .u8 v.r.u, .int .u8 v.r.p, .int .u8 v.r.m, .bool v.r.g, .int .u32 v.r.v, .int .u64 v.r.a, .string v.r.t]] w fun x w' => x = .returned (.agg #[.int .u64 v.a, .bool v.d, .int .i64 v.r.k, .int .i64 v.r.s, .int .i64 v.r.u, .int .i64 v.r.p, .int .i64 v.r.m, .bool v.r.g, .int .u64 v.r.v, .int .u64 v.r.a, .string v.r.t]) ∧ Below w.heap.size w w' := by
  have hb0 := box_b2 w (.cells (#[.int .u64 v.a, .bool v.d, .int .u8 v.r.k, .int .u8 v.r.s, .int .u8 v.r.u, .int .u8 v.r.p, .int .u8 v.r.m, .bool v.r.g, .int .u32 v.r.v, .int .u64 v.r.a, .string v.r.t]) 43) (.cells (#[.int .u64 zeroV.a, .bool zeroV.d, .int .i64 zeroV.r.k, .int .i64 zeroV.r.s, .int .i64 zeroV.r.u, .int .i64 zeroV.r.p, .int .i64 zeroV.r.m, .bool zeroV.r.g, .int .u64 zeroV.r.v, .int .u64 zeroV.r.a, .string zeroV.r.t]) 53)
  have HB1 := Lib.hid ((Blk.new w 43 (#[.int .u64 v.a, .bool v.d, .int .u8 v.r.k, .int .u8 v.r.s, .int .u8 v.r.u, .int .u8 v.r.p, .int .u8 v.r.m, .bool v.r.g, .int .u32 v.r.v, .int .u64 v.r.a, .string v.r.t])).alloc (.cells (#[.int .u64 zeroV.a, .bool zeroV.d, .int .i64 zeroV.r.k, .int .i64 zeroV.r.s, .int .i64 zeroV.r.u, .int .i64 zeroV.r.p, .int .i64 zeroV.r.m, .bool zeroV.r.g, .int .u64 zeroV.r.v, .int .u64 zeroV.r.a, .string zeroV.r.t]) 53))
  have hB2 := Blk.new (w.alloc (.cells (#[.int .u64 v.a, .bool v.d, .int .u8 v.r.k, .int .u8 v.r.s, .int .u8 v.r.u, .int .u8 v.r.p, .int .u8 v.r.m, .bool v.r.g, .int .u32 v.r.v, .int .u64 v.r.a, .string v.r.t]) 43)) 53 (#[.int .u64 zeroV.a, .bool zeroV.d, .int .i64 zeroV.r.k, .int .i64 zeroV.r.s, .int .i64 zeroV.r.u, .int .i64 zeroV.r.p, .int .i64 zeroV.r.m, .bool zeroV.r.g, .int .u64 zeroV.r.v, .int .u64 zeroV.r.a, .string zeroV.r.t])
  rw [World.size_alloc] at hB2
  have HB2 := Lib.hid hB2
  have HR := Lib.hid fun (W : World) => recof_any v.r W hv.r
  have HB0 := Lib.hid hb0
  have hu : Try.prog.underlying 53 = some (.struct (Try.prog.fieldsOf 53)) := by kernel_rfl
  have hi : (Try.prog.info? 53).map (·.size) = some 11 := by kernel_rfl
  clear hb0 hB2 hv
  go_enter Try.func18, Try.ntmps18
  go_wp2_with fail
  obtain ⟨X, hX⟩ : ∃ X, X = ((w.alloc (.cells (#[.int .u64 v.a, .bool v.d, .int .u8 v.r.k, .int .u8 v.r.s, .int .u8 v.r.u, .int .u8 v.r.p, .int .u8 v.r.m, .bool v.r.g, .int .u32 v.r.v, .int .u64 v.r.a, .string v.r.t]) 43)).alloc (.cells (#[.int .u64 zeroV.a, .bool zeroV.d, .int .i64 zeroV.r.k, .int .i64 zeroV.r.s, .int .i64 zeroV.r.u, .int .i64 zeroV.r.p, .int .i64 zeroV.r.m, .bool zeroV.r.g, .int .u64 zeroV.r.v, .int .u64 zeroV.r.a, .string zeroV.r.t]) 53)) := ⟨_, rfl⟩
  have hS : ∀ Y, Below X.heap.size X Y → (Y.cell? ⟨w.heap.size, 0, none⟩ = some (.int .u64 v.a) ∧ Y.cell? ⟨w.heap.size, 1, none⟩ = some (.bool v.d) ∧ Y.cell? ⟨w.heap.size, 2, none⟩ = some (.int .u8 v.r.k) ∧ Y.cell? ⟨w.heap.size, 3, none⟩ = some (.int .u8 v.r.s) ∧ Y.cell? ⟨w.heap.size, 4, none⟩ = some (.int .u8 v.r.u) ∧ Y.cell? ⟨w.heap.size, 5, none⟩ = some (.int .u8 v.r.p) ∧ Y.cell? ⟨w.heap.size, 6, none⟩ = some (.int .u8 v.r.m) ∧ Y.cell? ⟨w.heap.size, 7, none⟩ = some (.bool v.r.g) ∧ Y.cell? ⟨w.heap.size, 8, none⟩ = some (.int .u32 v.r.v) ∧ Y.cell? ⟨w.heap.size, 9, none⟩ = some (.int .u64 v.r.a) ∧ Y.cell? ⟨w.heap.size, 10, none⟩ = some (.string v.r.t)) ∧ (Y.cell? ⟨w.heap.size + 1, 0, none⟩ = some (.int .u64 zeroV.a) ∧ Y.cell? ⟨w.heap.size + 1, 1, none⟩ = some (.bool zeroV.d) ∧ Y.cell? ⟨w.heap.size + 1, 2, none⟩ = some (.int .i64 zeroV.r.k) ∧ Y.cell? ⟨w.heap.size + 1, 3, none⟩ = some (.int .i64 zeroV.r.s) ∧ Y.cell? ⟨w.heap.size + 1, 4, none⟩ = some (.int .i64 zeroV.r.u) ∧ Y.cell? ⟨w.heap.size + 1, 5, none⟩ = some (.int .i64 zeroV.r.p) ∧ Y.cell? ⟨w.heap.size + 1, 6, none⟩ = some (.int .i64 zeroV.r.m) ∧ Y.cell? ⟨w.heap.size + 1, 7, none⟩ = some (.bool zeroV.r.g) ∧ Y.cell? ⟨w.heap.size + 1, 8, none⟩ = some (.int .u64 zeroV.r.v) ∧ Y.cell? ⟨w.heap.size + 1, 9, none⟩ = some (.int .u64 zeroV.r.a) ∧ Y.cell? ⟨w.heap.size + 1, 10, none⟩ = some (.string zeroV.r.t)) ∧ (Y.frozen? ⟨w.heap.size + 1, 0, none⟩ = false ∧ Y.frozen? ⟨w.heap.size + 1, 1, none⟩ = false ∧ Y.frozen? ⟨w.heap.size + 1, 2, none⟩ = false ∧ Y.frozen? ⟨w.heap.size + 1, 3, none⟩ = false ∧ Y.frozen? ⟨w.heap.size + 1, 4, none⟩ = false ∧ Y.frozen? ⟨w.heap.size + 1, 5, none⟩ = false ∧ Y.frozen? ⟨w.heap.size + 1, 6, none⟩ = false ∧ Y.frozen? ⟨w.heap.size + 1, 7, none⟩ = false ∧ Y.frozen? ⟨w.heap.size + 1, 8, none⟩ = false ∧ Y.frozen? ⟨w.heap.size + 1, 9, none⟩ = false ∧ Y.frozen? ⟨w.heap.size + 1, 10, none⟩ = false) := fun Y hb => by
    have h1 := HB1.out
    have h2 := HB2.out
    rw [← hX] at h1 h2
    exact ⟨elev_blk (h1.below hb), delev_blk (h2.below hb), frz_blk (h2.below hb)⟩
  have hBX : ∀ Y, Below X.heap.size X Y → Below w.heap.size w Y ∧ Blk Y (w.heap.size + 1) 53 (#[.int .u64 zeroV.a, .bool zeroV.d, .int .i64 zeroV.r.k, .int .i64 zeroV.r.s, .int .i64 zeroV.r.u, .int .i64 zeroV.r.p, .int .i64 zeroV.r.m, .bool zeroV.r.g, .int .u64 zeroV.r.v, .int .u64 zeroV.r.a, .string zeroV.r.t]) := fun Y hb => by
    have h0 := HB0.out
    have h2 := HB2.out
    rw [← hX] at h0 h2
    exact ⟨bthen h0 hb, h2.below hb⟩
  have hbx : Below X.heap.size X X.drew := bdr0 X
  obtain ⟨⟨c0, c1, c2, c3, c4, c5, c6, c7, c8, c9, c10⟩, _, _⟩ := hS X.drew hbx
  have HS2 := Lib.hid hS
  have HBX := Lib.hid hBX
  simp only [zeroV, zeroR] at hX
  rw [← hX]
  clear hS hBX hX HB1 HB2 HB0
  go_region_held3 (fun w' => (w'.cell? ⟨w.heap.size, 0, none⟩ = some (.int .u64 v.a) ∧ w'.cell? ⟨w.heap.size, 1, none⟩ = some (.bool v.d) ∧ w'.cell? ⟨w.heap.size, 2, none⟩ = some (.int .u8 v.r.k) ∧ w'.cell? ⟨w.heap.size, 3, none⟩ = some (.int .u8 v.r.s) ∧ w'.cell? ⟨w.heap.size, 4, none⟩ = some (.int .u8 v.r.u) ∧ w'.cell? ⟨w.heap.size, 5, none⟩ = some (.int .u8 v.r.p) ∧ w'.cell? ⟨w.heap.size, 6, none⟩ = some (.int .u8 v.r.m) ∧ w'.cell? ⟨w.heap.size, 7, none⟩ = some (.bool v.r.g) ∧ w'.cell? ⟨w.heap.size, 8, none⟩ = some (.int .u32 v.r.v) ∧ w'.cell? ⟨w.heap.size, 9, none⟩ = some (.int .u64 v.r.a) ∧ w'.cell? ⟨w.heap.size, 10, none⟩ = some (.string v.r.t)))
    (first | (refine ⟨?_, ?_, ?_, ?_, ?_, ?_, ?_, ?_, ?_, ?_, ?_⟩ <;> with_reducible assumption) | (refine ⟨?_, ?_, ?_, ?_, ?_, ?_, ?_, ?_, ?_, ?_, ?_⟩ <;> (repeat rw [World.cell?_setCell_far _ _ _ _ (by simp)]) <;> with_reducible assumption) | fail)
    (first
      | (go_at_call 21; ((with_reducible refine (HR.out _).mono ?_); rintro x W3 ⟨rfl, hb3⟩; have hbY := bthen hbx hb3; clear hb3; obtain ⟨⟨e0, e1, e2, e3, e4, e5, e6, e7, e8, e9, e10⟩, ⟨d0, d1, d2, d3, d4, d5, d6, d7, d8, d9, d10⟩, ⟨f0, f1, f2, f3, f4, f5, f6, f7, f8, f9, f10⟩⟩ := HS2.out _ hbY; simp only [zeroV, zeroR] at d0 d1 d2 d3 d4 d5 d6 d7 d8 d9 d10))
      | fail)
  obtain ⟨hbZ, hBk⟩ := HBX.out _ hbY
  simp only [zeroV, zeroR] at hBk
  go_wp2_with fail
  refine bodyPost_ret (results_cell_row Try.results18 _ _ (w.heap.size + 1) 53 _ (0, 0) _ rfl (elev_set _ _ _ _ _ _ _ _ _ _ _ _ _ _ _ _ _ _ _ _ _ _ hBk) hu rfl hi) rfl ?_
  exact ⟨rfl, elev_below hbZ (by omega) _ _ _ _ _ _ _ _ _ _ _⟩
set_option maxRecDepth 100000 in
theorem dnewest_any (a : Option Addr) (n c : Nat) (L : List V) (w : World) (hn : L.length = n) (hl : n ≤ 1000000) (hL : DL w a L) :
    Calls Try.prog 32 #[.slice a n c] w fun e w' => e = .returned (.int .u64 (newestF L)) ∧ w = w' := by
  subst hn
  rcases Nat.eq_zero_or_pos L.length with h0 | h0
  · have : L = [] := List.length_eq_zero_iff.1 h0
    subst this
    go_enter Try.func32, Try.ntmps32
    go_wp2_with fail
    go_ret
    exact ⟨rfl, rfl⟩
  · obtain ⟨k, hk⟩ : ∃ k, L.length = k + 1 := ⟨L.length - 1, by omega⟩
    obtain ⟨v, hv⟩ := at_some (show k < L.length by omega)
    have hnw := newest_at hk.symm hv
    obtain ⟨b, off, rfl, c0, _⟩ := hL.at hv
    have hk0 : (0 : Int) ≤ (k : Int) := Int.natCast_nonneg _
    have hne : ((k : Int) + 1 == 0) = false := by rw [beq_eq_false_iff_ne]; omega
    have hne2 : ¬ ((k : Int) + 1 = 0) := by omega
    have hlk : (k : Int) < ((k + 1 : Nat) : Int) := by omega
    have hN := Lib.hid hnw
    rw [hk]
    clear hnw hL
    go_enter Try.func32, Try.ntmps32
    go_wp2_with fail
    go_ret
    exact ⟨ret_int (by rw [hN.out]), rfl⟩
end Go.Proofs.Ytpbdgfgjlccapaa.cw
