/-
  The walks of layer 10: a record without what its kind uses.
-/
import Derived.Test.YtpbdgfgjlccapaaRecA
namespace Go.Proofs.Ytpbdgfgjlccapaa.rw
open Go.RowKit Go.Proofs.Ytpbdgfgjlccapaa.ba Go.Proofs.Ytpbdgfgjlccapaa.rp
set_option maxRecDepth 8000
set_option linter.unusedVariables false

theorem uses_off (k : Int) (j i off : Nat) (h : (usesK k)[j]? = some (i, off)) : (i = 0 ∧ (off = 1 ∨ off = 2 ∨ off = 3 ∨ off = 4)) ∨ (i = 1 ∧ off = 5) ∨ (i = 2 ∧ off = 6) ∨ (i = 3 ∧ off = 7) ∨ (i = 4 ∧ off = 8) := by
  have h1 := List.mem_of_getElem? h
  unfold usesK at h1
  repeat' split at h1
  all_goals simp at h1
  all_goals omega
theorem bare1_any (g off : Nat) (n : Int) (w : World) (hc : w.cell? ⟨g, off, none⟩ = some (.int .u8 n)) (hf : w.frozen? ⟨g, off, none⟩ = false) :
    Calls Try.prog 44 #[.pointer (some ⟨g, off, none⟩)] w fun x w' => x = .returned (.tuple #[]) ∧ w.setCell ⟨g, off, none⟩ (.int .u8 0) = w' := by
  go_enter Try.func44, Try.ntmps44
  go_wp2_with fail
  go_end0
  exact ⟨rfl, rfl⟩
theorem bare2_any (g off : Nat) (b : Bool) (w : World) (hc : w.cell? ⟨g, off, none⟩ = some (.bool b)) (hf : w.frozen? ⟨g, off, none⟩ = false) :
    Calls Try.prog 45 #[.pointer (some ⟨g, off, none⟩)] w fun x w' => x = .returned (.tuple #[]) ∧ w.setCell ⟨g, off, none⟩ (.bool false) = w' := by
  go_enter Try.func45, Try.ntmps45
  go_wp2_with fail
  go_end0
  exact ⟨rfl, rfl⟩
theorem bare3_any (g off : Nat) (n : Int) (w : World) (hc : w.cell? ⟨g, off, none⟩ = some (.int .u32 n)) (hf : w.frozen? ⟨g, off, none⟩ = false) :
    Calls Try.prog 46 #[.pointer (some ⟨g, off, none⟩)] w fun x w' => x = .returned (.tuple #[]) ∧ w.setCell ⟨g, off, none⟩ (.int .u32 0) = w' := by
  go_enter Try.func46, Try.ntmps46
  go_wp2_with fail
  go_end0
  exact ⟨rfl, rfl⟩
theorem bare4_any (g off : Nat) (n : Int) (w : World) (hc : w.cell? ⟨g, off, none⟩ = some (.int .u64 n)) (hf : w.frozen? ⟨g, off, none⟩ = false) :
    Calls Try.prog 47 #[.pointer (some ⟨g, off, none⟩)] w fun x w' => x = .returned (.tuple #[]) ∧ w.setCell ⟨g, off, none⟩ (.int .u64 0) = w' := by
  go_enter Try.func47, Try.ntmps47
  go_wp2_with fail
  go_end0
  exact ⟨rfl, rfl⟩
theorem bare5_any (g off : Nat) (t : ByteArray) (w : World) (hc : w.cell? ⟨g, off, none⟩ = some (.string t)) (hf : w.frozen? ⟨g, off, none⟩ = false) :
    Calls Try.prog 48 #[.pointer (some ⟨g, off, none⟩)] w fun x w' => x = .returned (.tuple #[]) ∧ w.setCell ⟨g, off, none⟩ (.string ⟨#[]⟩) = w' := by
  go_enter Try.func48, Try.ntmps48
  go_wp2_with fail
  go_end0
  exact ⟨rfl, rfl⟩
/-- A record without a field. -/
def setZ (off : Nat) (r : R) : R :=
  if off = 1 then { r with s := 0 } else if off = 2 then { r with u := 0 } else if off = 3 then { r with p := 0 } else if off = 4 then { r with m := 0 } else if off = 5 then { r with g := false } else if off = 6 then { r with v := 0 } else if off = 7 then { r with a := 0 } else { r with t := ⟨#[]⟩ }
def cellsOf (r : R) : Array Value := #[.int .u8 r.k, .int .u8 r.s, .int .u8 r.u, .int .u8 r.p, .int .u8 r.m, .bool r.g, .int .u32 r.v, .int .u64 r.a, .string r.t]
/-- .. without the first j that its kind uses. -/
def zj (r : R) : Nat → R
  | 0 => r
  | j + 1 => match (usesK r.k)[j]? with
    | some (_, off) => setZ off (zj r j)
    | none => zj r j
def bareF (r : R) : R := zj r (usesK r.k).length
theorem zj_succ (r : R) (j i off : Nat) (h : (usesK r.k)[j]? = some (i, off)) : zj r (j + 1) = setZ off (zj r j) := by
  rw [zj, h]
theorem cf_bare1 (caps : Array Value) (w : World) : (callFunc 44 caps).run Try.prog w = .ok (.enter 44 caps) w := by kernel_rfl
theorem cf_bare2 (caps : Array Value) (w : World) : (callFunc 45 caps).run Try.prog w = .ok (.enter 45 caps) w := by kernel_rfl
theorem cf_bare3 (caps : Array Value) (w : World) : (callFunc 46 caps).run Try.prog w = .ok (.enter 46 caps) w := by kernel_rfl
theorem cf_bare4 (caps : Array Value) (w : World) : (callFunc 47 caps).run Try.prog w = .ok (.enter 47 caps) w := by kernel_rfl
theorem cf_bare5 (caps : Array Value) (w : World) : (callFunc 48 caps).run Try.prog w = .ok (.enter 48 caps) w := by kernel_rfl
/-- The copy, as far as it is bare; the result's cell. -/
def BI (w : World) (r : R) (j : Nat) (W : World) : Prop :=
  Blk W w.heap.size 30 (cellsOf (zj r j)) ∧ Blk W (w.heap.size + 1) 30 (cellsOf ⟨0, 0, 0, 0, 0, false, 0, 0, ⟨#[]⟩⟩) ∧ Below w.heap.size w W
theorem BI.set {w W : World} {r : R} {j i off : Nat} (h : BI w r j W) (hu : (usesK r.k)[j]? = some (i, off)) (v : Value) (hv : (cellsOf (zj r j)).setIfInBounds off v = cellsOf (setZ off (zj r j))) : Step (BI w r) (fun j => j = w.heap.size) (j + 1) W (W.setCell ⟨w.heap.size, off, none⟩ v) (.returned (.tuple #[])) := by
  obtain ⟨h1, h2, h3⟩ := h
  refine ⟨rfl, ⟨?_, h2.far (p := ⟨w.heap.size, off, none⟩) (by simp) v, h3.setCell (Nat.le_refl _) v⟩, Kept.of_set v rfl⟩
  rw [zj_succ r j i off hu, ← hv]
  exact h1.set_ off v
theorem two_recs (w : World) (a b : Array Value) (t : TypeId) : Blk ((w.alloc (.cells a t)).alloc (.cells b t)) w.heap.size t a ∧ Blk ((w.alloc (.cells a t)).alloc (.cells b t)) (w.heap.size + 1) t b ∧ Below w.heap.size w ((w.alloc (.cells a t)).alloc (.cells b t)) := by
  refine ⟨(Blk.new w t a).alloc _, ?_, bthen ((Below.refl _ _).alloc (Nat.le_refl _) _) ((Below.refl _ _).alloc (Nat.le_refl _) _)⟩
  have := Blk.new (w.alloc (.cells a t)) t b
  simpa using this

theorem nine_below {w W : World} (h : Below w.heap.size w W) (a b c d e f g i j : Value) : Below w.heap.size w (((((((((W.setCell ⟨w.heap.size + 1, 0, none⟩ a).setCell ⟨w.heap.size + 1, 1, none⟩ b).setCell ⟨w.heap.size + 1, 2, none⟩ c).setCell ⟨w.heap.size + 1, 3, none⟩ d).setCell ⟨w.heap.size + 1, 4, none⟩ e).setCell ⟨w.heap.size + 1, 5, none⟩ f).setCell ⟨w.heap.size + 1, 6, none⟩ g).setCell ⟨w.heap.size + 1, 7, none⟩ i).setCell ⟨w.heap.size + 1, 8, none⟩ j) :=
  (((((((((h.setCell (p := ⟨w.heap.size + 1, 0, none⟩) (Nat.le_succ _) a).setCell (p := ⟨w.heap.size + 1, 1, none⟩) (Nat.le_succ _) b).setCell (p := ⟨w.heap.size + 1, 2, none⟩) (Nat.le_succ _) c).setCell (p := ⟨w.heap.size + 1, 3, none⟩) (Nat.le_succ _) d).setCell (p := ⟨w.heap.size + 1, 4, none⟩) (Nat.le_succ _) e).setCell (p := ⟨w.heap.size + 1, 5, none⟩) (Nat.le_succ _) f).setCell (p := ⟨w.heap.size + 1, 6, none⟩) (Nat.le_succ _) g).setCell (p := ⟨w.heap.size + 1, 7, none⟩) (Nat.le_succ _) i).setCell (p := ⟨w.heap.size + 1, 8, none⟩) (Nat.le_succ _) j)
set_option maxRecDepth 100000 in
set_option maxHeartbeats 4000000 in
theorem bare_any (r : R) (w : World) (hr : r.ok) :
    Calls Try.prog 41 #[.agg #[.int .u8 r.k, .int .u8 r.s, .int .u8 r.u, .int .u8 r.p, .int .u8 r.m, .bool r.g, .int .u32 r.v, .int .u64 r.a, .string r.t]] w fun x w' => x = .returned (.agg (cellsOf (bareF r))) ∧ Below w.heap.size w w' := by
  obtain ⟨b1, b2, b3⟩ := two_recs w (#[.int .u8 r.k, .int .u8 r.s, .int .u8 r.u, .int .u8 r.p, .int .u8 r.m, .bool r.g, .int .u32 r.v, .int .u64 r.a, .string r.t]) #[.int .u8 0, .int .u8 0, .int .u8 0, .int .u8 0, .int .u8 0, .bool false, .int .u32 0, .int .u64 0, .string ⟨#[]⟩] 30
  have c0 := b1.cell 0
  have hV := Lib.hid (visit_any r.k w.heap.size 44 45 46 47 48 #[] #[] #[] #[] #[] (fun j => j = w.heap.size) (BI w r) _ hr.k.1 hr.k.2 ⟨b1.alloc _, b2.alloc _, b3.alloc b3.size _⟩
    (fun j W h => ⟨h.1.drew, h.2.1.drew, h.2.2.drew⟩) (fun e => by simp at e; omega) c0 cf_bare1 cf_bare2 cf_bare3 cf_bare4 cf_bare5
    (fun j off hu W hI => by
      have ho : off = 1 ∨ off = 2 ∨ off = 3 ∨ off = 4 := by have := uses_off _ _ _ _ hu; omega
      rcases ho with rfl | rfl | rfl | rfl
      · exact (bare1_any w.heap.size 1 _ W (hI.1.cell 1) (hI.1.frozen 1)).mono fun x w' ⟨hx, hw⟩ => by subst hx; subst hw; exact hI.set hu _ rfl
      · exact (bare1_any w.heap.size 2 _ W (hI.1.cell 2) (hI.1.frozen 2)).mono fun x w' ⟨hx, hw⟩ => by subst hx; subst hw; exact hI.set hu _ rfl
      · exact (bare1_any w.heap.size 3 _ W (hI.1.cell 3) (hI.1.frozen 3)).mono fun x w' ⟨hx, hw⟩ => by subst hx; subst hw; exact hI.set hu _ rfl
      · exact (bare1_any w.heap.size 4 _ W (hI.1.cell 4) (hI.1.frozen 4)).mono fun x w' ⟨hx, hw⟩ => by subst hx; subst hw; exact hI.set hu _ rfl)
    (fun j off hu W hI => by
      obtain rfl : off = 5 := by have := uses_off _ _ _ _ hu; omega
      exact (bare2_any w.heap.size 5 _ W (hI.1.cell 5) (hI.1.frozen 5)).mono fun x w' ⟨hx, hw⟩ => by subst hx; subst hw; exact hI.set hu _ rfl)
    (fun j off hu W hI => by
      obtain rfl : off = 6 := by have := uses_off _ _ _ _ hu; omega
      exact (bare3_any w.heap.size 6 _ W (hI.1.cell 6) (hI.1.frozen 6)).mono fun x w' ⟨hx, hw⟩ => by subst hx; subst hw; exact hI.set hu _ rfl)
    (fun j off hu W hI => by
      obtain rfl : off = 7 := by have := uses_off _ _ _ _ hu; omega
      exact (bare4_any w.heap.size 7 _ W (hI.1.cell 7) (hI.1.frozen 7)).mono fun x w' ⟨hx, hw⟩ => by subst hx; subst hw; exact hI.set hu _ rfl)
    (fun j off hu W hI => by
      obtain rfl : off = 8 := by have := uses_off _ _ _ _ hu; omega
      exact (bare5_any w.heap.size 8 _ W (hI.1.cell 8) (hI.1.frozen 8)).mono fun x w' ⟨hx, hw⟩ => by subst hx; subst hw; exact hI.set hu _ rfl))
  clear b1 b2 b3 c0
  obtain ⟨q, hq⟩ : ∃ q, q = bareF r := ⟨_, rfl⟩
  rw [← hq]
  have hV2 := Lib.hid (hV.out.mono fun x W1 ⟨hx, hI, hK⟩ => (⟨hx, by rw [hq]; exact hI.1, hI.2.1, hI.2.2⟩ : x = Ending.returned (.tuple #[]) ∧ Blk W1 w.heap.size 30 (cellsOf q) ∧ Blk W1 (w.heap.size + 1) 30 (cellsOf ⟨0, 0, 0, 0, 0, false, 0, 0, ⟨#[]⟩⟩) ∧ Below w.heap.size w W1))
  clear hV hq
  go_enter Try.func41, Try.ntmps41
  go_wp2_with ((with_reducible refine hV2.out.mono ?_); rintro x W1 ⟨rfl, hI1, hI2, hI3⟩; have c0 : W1.cell? ⟨w.heap.size, 0, none⟩ = some (.int .u8 q.k) := hI1.cell 0; have c1 : W1.cell? ⟨w.heap.size, 1, none⟩ = some (.int .u8 q.s) := hI1.cell 1; have c2 : W1.cell? ⟨w.heap.size, 2, none⟩ = some (.int .u8 q.u) := hI1.cell 2; have c3 : W1.cell? ⟨w.heap.size, 3, none⟩ = some (.int .u8 q.p) := hI1.cell 3; have c4 : W1.cell? ⟨w.heap.size, 4, none⟩ = some (.int .u8 q.m) := hI1.cell 4; have c5 : W1.cell? ⟨w.heap.size, 5, none⟩ = some (.bool q.g) := hI1.cell 5; have c6 : W1.cell? ⟨w.heap.size, 6, none⟩ = some (.int .u32 q.v) := hI1.cell 6; have c7 : W1.cell? ⟨w.heap.size, 7, none⟩ = some (.int .u64 q.a) := hI1.cell 7; have c8 : W1.cell? ⟨w.heap.size, 8, none⟩ = some (.string q.t) := hI1.cell 8; have d0 : W1.cell? ⟨w.heap.size + 1, 0, none⟩ = some (.int .u8 0) := hI2.cell 0; have f0 := hI2.frozen 0; have d1 : W1.cell? ⟨w.heap.size + 1, 1, none⟩ = some (.int .u8 0) := hI2.cell 1; have f1 := hI2.frozen 1; have d2 : W1.cell? ⟨w.heap.size + 1, 2, none⟩ = some (.int .u8 0) := hI2.cell 2; have f2 := hI2.frozen 2; have d3 : W1.cell? ⟨w.heap.size + 1, 3, none⟩ = some (.int .u8 0) := hI2.cell 3; have f3 := hI2.frozen 3; have d4 : W1.cell? ⟨w.heap.size + 1, 4, none⟩ = some (.int .u8 0) := hI2.cell 4; have f4 := hI2.frozen 4; have d5 : W1.cell? ⟨w.heap.size + 1, 5, none⟩ = some (.bool false) := hI2.cell 5; have f5 := hI2.frozen 5; have d6 : W1.cell? ⟨w.heap.size + 1, 6, none⟩ = some (.int .u32 0) := hI2.cell 6; have f6 := hI2.frozen 6; have d7 : W1.cell? ⟨w.heap.size + 1, 7, none⟩ = some (.int .u64 0) := hI2.cell 7; have f7 := hI2.frozen 7; have d8 : W1.cell? ⟨w.heap.size + 1, 8, none⟩ = some (.string ⟨#[]⟩) := hI2.cell 8; have f8 := hI2.frozen 8; have HB := Lib.hid hI3; clear hI1 hI2 hI3)
  exact bodyPost_ret (v := .agg (cellsOf q)) (by simp [results, Try.results41, go_sem, cellsOf, d0, d1, d2, d3, d4, d5, d6, d7, d8]) rfl ⟨rfl, nine_below HB.out _ _ _ _ _ _ _ _ _⟩
end Go.Proofs.Ytpbdgfgjlccapaa.rw
