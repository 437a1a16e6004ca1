/-
  The walks of layer 10: a record's fields are written, by the closures that the record is visited with.
-/
import Derived.Test.YtaekpejpcafnkaaRecC
import Derived.Test.YtaekpejpcafnkaaWireD
import Derived.Deep.RegionHeld3
namespace Go.Proofs.Ytaekpejpcafnkaa.rw
open Go.RowKit Go.Proofs.Ytaekpejpcafnkaa.ba Go.Proofs.Ytaekpejpcafnkaa.rp Go.Proofs.Ytaekpejpcafnkaa.dp Go.Proofs.Ytaekpejpcafnkaa.wp Go.Proofs.Ytaekpejpcafnkaa.ww
set_option maxRecDepth 8000
set_option linter.unusedVariables false
attribute [local go_sem ↓] Go.wp_at_zero Go.wp_at_succ

def u8At (r : R) (off : Nat) : Int := if off = 1 then r.s else if off = 2 then r.u else if off = 3 then r.p else r.m
def gB (g : Bool) : Int := if g = true then 1 else 0
/-- A field's bytes. -/
def fbR (r : R) (x : Nat × Nat) : List Int :=
  if x.1 = 0 then [u8At r x.2] else if x.1 = 1 then [gB r.g] else if x.1 = 2 then smaL r.v.toNat else if x.1 = 3 then smaL r.a.toNat else smaL r.t.size ++ strL r.t
/-- A record's bytes, up to so many fields. -/
def encJ (r : R) (j : Nat) : List Int := r.k :: ((usesK r.k).take j).flatMap (fbR r)
def encR (r : R) : List Int := encJ r (usesK r.k).length
theorem encJ_succ {r : R} {j : Nat} {x : Nat × Nat} (h : (usesK r.k)[j]? = some x) : encJ r (j + 1) = encJ r j ++ fbR r x := by
  obtain ⟨hj, hx⟩ := List.getElem?_eq_some_iff.1 h
  unfold encJ
  rw [List.take_succ_eq_append_getElem hj, List.flatMap_append, hx]
  simp
theorem smaL_len (n : Nat) : (smaL n).length ≤ 10 := smaK_len 10 n
theorem encR_le (r : R) (ht : r.t.size ≤ 60) : (encR r).length ≤ 100 := by
  have h1 := smaL_len r.v.toNat
  have h2 := smaL_len r.a.toNat
  have h3 := smaL_len r.t.size
  have h4 := strL_len r.t
  unfold encR encJ
  rw [List.take_length]
  unfold usesK
  repeat' split
  all_goals simp [fbR] <;> omega
theorem encJ_le (r : R) (ht : r.t.size ≤ 60) (j : Nat) : (encJ r j).length ≤ 100 := by
  have h := encR_le r ht
  have e : encR r = encJ r j ++ ((usesK r.k).drop j).flatMap (fbR r) := by
    unfold encR encJ
    rw [List.take_length, List.cons_append, ← List.flatMap_append, List.take_append_drop]
  rw [e, List.length_append] at h
  omega

/-- A record is written: so many fields are, in a writer that a variable holds. -/
def WI (r : R) (L gr gv gw V : Nat) (vc : Array Value) (j : Nat) (W : World) : Prop :=
  Blk W gr 30 (cellsOf r) ∧ Blk W gv 79 #[.pointer (some ⟨gw, 0, none⟩)] ∧ Blk W V 77 vc ∧ (∃ q, Wr W gw q (encJ r j) 0 100 ∧ ∀ k, q = some k → L ≤ k) ∧ L ≤ gw
def WS (L gr gv V : Nat) (j : Nat) : Prop := L ≤ j ∧ j ≠ gr ∧ j ≠ gv ∧ j ≠ V

section
variable {r : R} {L gr gv gw V : Nat} {vc : Array Value} {j : Nat} {W : World}
theorem bdrew1 (W : World) : Below W.heap.size W W.drew := ⟨rfl, rfl, rfl, Nat.le_refl _, fun _ _ => rfl⟩
theorem wr_apart {w : World} {g : Nat} {q : Option Nat} {l : List Int} {e room : Int} {k : Nat} {t : TypeId} {cs : Array Value} (h : Wr w g q l e room) (hb : Blk w k t cs) (h1 : t ≠ 5) (h2 : t ≠ 104) : q ≠ some k ∧ g ≠ k := by
  obtain ⟨v, hB, ho, rfl⟩ := h
  refine ⟨?_, fun e => ?_⟩
  · rcases own_ne ho hb (fun cur e => h1 (by simp at e; exact e.2)) with h | h
    · rw [h]; simp
    · exact h
  · subst e
    exact h2 (Blk.one hb hB).2
theorem WI.step {x : Nat × Nat} {W2 w' : World} {q : Option Nat} {y : Ending} (h : WI r L gr gv gw V vc j W) (ht : r.t.size ≤ 60) (hx : (usesK r.k)[j]? = some x) (hb : Below W.heap.size W W2) (hL : L ≤ W.heap.size) (hW : Wr W gw q (encJ r j) 0 100) (hq : ∀ k, q = some k → L ≤ k)
    (hD : WrDone W2 w' gw q (wput 100 (fbR r x) (encJ r j, 0)) 100 y) : Step (WI r L gr gv gw V vc) (WS L gr gv V) (j + 1) W w' (.returned (.tuple #[])) := by
  obtain ⟨h1, h2, h3, _, h5⟩ := h
  have hs := encJ_succ hx
  have hl := encJ_le r ht (j + 1)
  rw [hs, List.length_append] at hl
  rw [wput_fits (by omega)] at hD
  obtain ⟨_, q', hW', hK, hq'⟩ := hD
  obtain ⟨a1, a2⟩ := wr_apart hW h1 (by decide) (by decide)
  obtain ⟨b1, b2⟩ := wr_apart hW h2 (by decide) (by decide)
  obtain ⟨c1, c2⟩ := wr_apart hW h3 (by decide) (by decide)
  have hk : Kept (WS L gr gv V) W w' := (Kept.of_below (S := WS L gr gv V) hb).trans hK (fun k _ hk => by
    rcases hk with rfl | hk
    · exact ⟨h5, a2, b2, c2⟩
    · exact ⟨hq k hk, fun e => a1 (by rw [hk, e]), fun e => b1 (by rw [hk, e]), fun e => c1 (by rw [hk, e])⟩)
  refine ⟨rfl, ⟨h1.kept hk (fun e => e.2.1 rfl), h2.kept hk (fun e => e.2.2.1 rfl), h3.kept hk (fun e => e.2.2.2 rfl), ⟨q', by rw [hs]; exact hW', fun k hk => ?_⟩, h5⟩, hk⟩
  rcases hq' with rfl | ⟨k', rfl, hk'⟩
  · exact hq k hk
  · cases hk
    exact Nat.le_trans hL (Nat.le_trans hb.size hk')
theorem WI.drew (h : WI r L gr gv gw V vc j W) : WI r L gr gv gw V vc j W.drew := h
theorem u8At_cell {off : Nat} (h : Blk W gr 30 (cellsOf r)) (ho : off = 1 ∨ off = 2 ∨ off = 3 ∨ off = 4) : W.cell? ⟨gr, off, none⟩ = some (.int .u8 (u8At r off)) := by
  rcases ho with rfl | rfl | rfl | rfl <;> exact h.cell _
set_option maxHeartbeats 1000000 in
theorem wb1_any (off : Nat) (hI : WI r L gr gv gw V vc j W) (hL : L ≤ W.heap.size) (ht : r.t.size ≤ 60) (hx : (usesK r.k)[j]? = some (0, off)) :
    Calls Try.prog 35 (#[.pointer (some ⟨gr, off, none⟩)] ++ #[.pointer (some ⟨gv, 0, none⟩)]) W fun x w' => Step (WI r L gr gv gw V vc) (WS L gr gv V) (j + 1) W w' x := by
  obtain ⟨h1, h2, h3, ⟨q, hW, hq⟩, h5⟩ := id hI
  have ho : off = 1 ∨ off = 2 ∨ off = 3 ∨ off = 4 := by have := uses_off _ _ _ _ hx; omega
  have c1 := u8At_cell h1 ho
  have c2 : W.cell? ⟨gv, 0, none⟩ = some (.pointer (some ⟨gw, 0, none⟩)) := h2.cell 0
  have hln := encJ_le r ht j
  have HC : Hid (∀ (W2 : World) (b : Nat), Below W.heap.size W W2 → W2.cell? ⟨b, 0, none⟩ = some (.int .u8 (u8At r off)) → Calls Try.prog 34 #[.pointer (some ⟨gw, 0, none⟩), .slice (some ⟨b, 0, none⟩) 1 1] W2 fun y w' => y = .returned (.pointer (some ⟨gw, 0, none⟩)) ∧ (w'.cell? ⟨gv, 0, none⟩ = some (.pointer (some ⟨gw, 0, none⟩)) ∧ w'.cell? ⟨gr, off, none⟩ = some (.int .u8 (u8At r off))) ∧ Step (WI r L gr gv gw V vc) (WS L gr gv V) (j + 1) W w' (.returned (.tuple #[]))) :=
    Lib.hid fun W2 b hb hc => (byte_any gw q (encJ r j) 0 100 _ b 0 W2 (hW.below hb) (by omega) (by decide) (by decide) hc).mono fun y w' hD => have hS := hI.step ht hx hb hL hW hq hD; ⟨hD.1, ⟨hS.2.1.2.1.cell 0, u8At_cell hS.2.1.1 ho⟩, hS⟩
  have hbel : ∀ o, Below W.heap.size W (W.drew.alloc o) := fun o => bthen (bdrew1 W) ((Below.refl _ _).alloc (Nat.le_refl _) _)
  have HB := Lib.hid hbel
  generalize u8At r off = X at c1 HC
  clear hx ho hln hbel h1 h2 h3 hI hW hq
  go_enter Try.func35, Try.ntmps35
  go_wp2_with fail
  go_region_held3 (fun w' => w'.cell? ⟨gv, 0, none⟩ = some (.pointer (some ⟨gw, 0, none⟩)) ∧ w'.cell? ⟨gr, off, none⟩ = some (.int .u8 X)) (first | (refine ⟨?_, ?_⟩ <;> assumption) | go_keep)
    (first
      | (go_at_call 34; ((refine (HC.out _ _ (HB.out _) (box_cell _ _ _)).mono ?_); rintro y w2 ⟨rfl, ⟨e1, e2⟩, hS⟩))
      | fail)
  all_goals
    go_end0
    exact hS
set_option maxHeartbeats 1000000 in
theorem wb2_any (hI : WI r L gr gv gw V vc j W) (hL : L ≤ W.heap.size) (ht : r.t.size ≤ 60) (hx : (usesK r.k)[j]? = some (1, 5)) :
    Calls Try.prog 36 (#[.pointer (some ⟨gr, 5, none⟩)] ++ #[.pointer (some ⟨gv, 0, none⟩)]) W fun x w' => Step (WI r L gr gv gw V vc) (WS L gr gv V) (j + 1) W w' x := by
  obtain ⟨h1, h2, h3, ⟨q, hW, hq⟩, h5⟩ := id hI
  have c1 : W.cell? ⟨gr, 5, none⟩ = some (.bool r.g) := h1.cell 5
  have c2 : W.cell? ⟨gv, 0, none⟩ = some (.pointer (some ⟨gw, 0, none⟩)) := h2.cell 0
  have hln := encJ_le r ht j
  have HC : Hid (∀ (W2 : World) (b : Nat), Below W.heap.size W W2 → W2.cell? ⟨b, 0, none⟩ = some (.int .u8 (gB r.g)) → Calls Try.prog 34 #[.pointer (some ⟨gw, 0, none⟩), .slice (some ⟨b, 0, none⟩) 1 1] W2 fun y w' => y = .returned (.pointer (some ⟨gw, 0, none⟩)) ∧ Step (WI r L gr gv gw V vc) (WS L gr gv V) (j + 1) W w' (.returned (.tuple #[]))) :=
    Lib.hid fun W2 b hb hc => (byte_any gw q (encJ r j) 0 100 _ b 0 W2 (hW.below hb) (by omega) (by decide) (by decide) hc).mono fun y w' hD => ⟨hD.1, hI.step ht hx hb hL hW hq hD⟩
  have HB := Lib.hid fun o => box_below W o
  generalize r.g = b at c1 HC
  clear hx hln h1 h2 h3 hI hW hq ht hL
  cases b with
  | true =>
    go_enter Try.func36, Try.ntmps36
    go_wp2_with (go_at_call 34; ((refine (HC.out _ _ (HB.out _) (box_cell _ _ _)).mono ?_); rintro y w2 ⟨rfl, hS⟩; have HS := Lib.hid hS; clear hS))
    go_end0
    exact HS.out
  | false =>
    go_enter Try.func36, Try.ntmps36
    go_wp2_with (go_at_call 34; ((refine (HC.out _ _ (HB.out _) (box_cell _ _ _)).mono ?_); rintro y w2 ⟨rfl, hS⟩; have HS := Lib.hid hS; clear hS))
    go_end0
    exact HS.out
set_option maxHeartbeats 1000000 in
theorem wb3_any (hr : r.ok) (hI : WI r L gr gv gw V vc j W) (hL : L ≤ W.heap.size) (ht : r.t.size ≤ 60) (hx : (usesK r.k)[j]? = some (2, 6)) :
    Calls Try.prog 37 (#[.pointer (some ⟨gr, 6, none⟩)] ++ #[.pointer (some ⟨gv, 0, none⟩)]) W fun x w' => Step (WI r L gr gv gw V vc) (WS L gr gv V) (j + 1) W w' x := by
  obtain ⟨h1, h2, h3, ⟨q, hW, hq⟩, h5⟩ := id hI
  have c1 : W.cell? ⟨gr, 6, none⟩ = some (.int .u32 r.v) := h1.cell 6
  have c2 : W.cell? ⟨gv, 0, none⟩ = some (.pointer (some ⟨gw, 0, none⟩)) := h2.cell 0
  have hln := encJ_le r ht j
  have hv : ((r.v.toNat : Nat) : Int) = r.v := by have := hr.v.1; omega
  have hwr : IntKind.u64.wrap r.v = r.v := IntWalk.u64_in _ ⟨hr.v.1, by have := hr.v.2; omega⟩
  have HC : Hid (∀ (W2 : World), Below W.heap.size W W2 → Calls Try.prog 38 #[.pointer (some ⟨gw, 0, none⟩), .int .u64 r.v] W2 fun y w' => y = .returned (.pointer (some ⟨gw, 0, none⟩)) ∧ (w'.cell? ⟨gv, 0, none⟩ = some (.pointer (some ⟨gw, 0, none⟩)) ∧ w'.cell? ⟨gr, 6, none⟩ = some (.int .u32 r.v)) ∧ Step (WI r L gr gv gw V vc) (WS L gr gv V) (j + 1) W w' (.returned (.tuple #[]))) :=
    Lib.hid fun W2 hb => (show Calls Try.prog 38 #[.pointer (some ⟨gw, 0, none⟩), .int .u64 r.v] W2 (fun y w' => WrDone W2 w' gw q (wput 100 (smaL r.v.toNat) (encJ r j, 0)) 100 y) from by have := number_any gw q (encJ r j) 0 100 r.v.toNat W2 (hW.below hb) (by omega) (by decide) (by decide) (by have := hr.v.2; omega); rw [hv] at this; exact this).mono fun y w' hD => have hS := hI.step ht hx hb hL hW hq hD; ⟨hD.1, ⟨hS.2.1.2.1.cell 0, hS.2.1.1.cell 6⟩, hS⟩
  have HB := Lib.hid (bdrew1 W)
  clear hx hln h1 h2 h3 hI hW hq ht hL
  go_enter Try.func37, Try.ntmps37
  go_wp2_with fail
  go_region_held3 (fun w' => w'.cell? ⟨gv, 0, none⟩ = some (.pointer (some ⟨gw, 0, none⟩)) ∧ w'.cell? ⟨gr, 6, none⟩ = some (.int .u32 r.v)) (first | (refine ⟨?_, ?_⟩ <;> assumption) | go_keep)
    (first
      | (go_at_call 38; ((refine (HC.out _ HB.out).mono ?_); rintro y w2 ⟨rfl, ⟨e1, e2⟩, hS⟩))
      | fail)
  all_goals
    go_end0
    exact hS
set_option maxHeartbeats 1000000 in
theorem wb4_any (hr : r.ok) (hI : WI r L gr gv gw V vc j W) (hL : L ≤ W.heap.size) (ht : r.t.size ≤ 60) (hx : (usesK r.k)[j]? = some (3, 7)) :
    Calls Try.prog 39 (#[.pointer (some ⟨gr, 7, none⟩)] ++ #[.pointer (some ⟨gv, 0, none⟩)]) W fun x w' => Step (WI r L gr gv gw V vc) (WS L gr gv V) (j + 1) W w' x := by
  obtain ⟨h1, h2, h3, ⟨q, hW, hq⟩, h5⟩ := id hI
  have c1 : W.cell? ⟨gr, 7, none⟩ = some (.int .u64 r.a) := h1.cell 7
  have c2 : W.cell? ⟨gv, 0, none⟩ = some (.pointer (some ⟨gw, 0, none⟩)) := h2.cell 0
  have hln := encJ_le r ht j
  have hv : ((r.a.toNat : Nat) : Int) = r.a := by have := hr.a.1; omega
  have HC : Hid (∀ (W2 : World), Below W.heap.size W W2 → Calls Try.prog 38 #[.pointer (some ⟨gw, 0, none⟩), .int .u64 r.a] W2 fun y w' => y = .returned (.pointer (some ⟨gw, 0, none⟩)) ∧ (w'.cell? ⟨gv, 0, none⟩ = some (.pointer (some ⟨gw, 0, none⟩)) ∧ w'.cell? ⟨gr, 7, none⟩ = some (.int .u64 r.a)) ∧ Step (WI r L gr gv gw V vc) (WS L gr gv V) (j + 1) W w' (.returned (.tuple #[]))) :=
    Lib.hid fun W2 hb => (show Calls Try.prog 38 #[.pointer (some ⟨gw, 0, none⟩), .int .u64 r.a] W2 (fun y w' => WrDone W2 w' gw q (wput 100 (smaL r.a.toNat) (encJ r j, 0)) 100 y) from by have := number_any gw q (encJ r j) 0 100 r.a.toNat W2 (hW.below hb) (by omega) (by decide) (by decide) (by have := hr.a.2; omega); rw [hv] at this; exact this).mono fun y w' hD => have hS := hI.step ht hx hb hL hW hq hD; ⟨hD.1, ⟨hS.2.1.2.1.cell 0, hS.2.1.1.cell 7⟩, hS⟩
  have HB := Lib.hid (bdrew1 W)
  clear hx hln h1 h2 h3 hI hW hq ht hL
  go_enter Try.func39, Try.ntmps39
  go_wp2_with fail
  go_region_held3 (fun w' => w'.cell? ⟨gv, 0, none⟩ = some (.pointer (some ⟨gw, 0, none⟩)) ∧ w'.cell? ⟨gr, 7, none⟩ = some (.int .u64 r.a)) (first | (refine ⟨?_, ?_⟩ <;> assumption) | go_keep)
    (first
      | (go_at_call 38; ((refine (HC.out _ HB.out).mono ?_); rintro y w2 ⟨rfl, ⟨e1, e2⟩, hS⟩))
      | fail)
  all_goals
    go_end0
    exact hS
set_option maxHeartbeats 1000000 in
theorem wb5_any (hr : r.ok) (hI : WI r L gr gv gw V vc j W) (hL : L ≤ W.heap.size) (ht : r.t.size ≤ 60) (hx : (usesK r.k)[j]? = some (4, 8)) :
    Calls Try.prog 40 (#[.pointer (some ⟨gr, 8, none⟩)] ++ #[.pointer (some ⟨gv, 0, none⟩)]) W fun x w' => Step (WI r L gr gv gw V vc) (WS L gr gv V) (j + 1) W w' x := by
  obtain ⟨h1, h2, h3, ⟨q, hW, hq⟩, h5⟩ := id hI
  have c1 : W.cell? ⟨gr, 8, none⟩ = some (.string r.t) := h1.cell 8
  have c2 : W.cell? ⟨gv, 0, none⟩ = some (.pointer (some ⟨gw, 0, none⟩)) := h2.cell 0
  have hln := encJ_le r ht j
  have HC : Hid (∀ (W2 : World), Below W.heap.size W W2 → Calls Try.prog 41 #[.pointer (some ⟨gw, 0, none⟩), .string r.t] W2 fun y w' => y = .returned (.pointer (some ⟨gw, 0, none⟩)) ∧ (w'.cell? ⟨gv, 0, none⟩ = some (.pointer (some ⟨gw, 0, none⟩)) ∧ w'.cell? ⟨gr, 8, none⟩ = some (.string r.t)) ∧ Step (WI r L gr gv gw V vc) (WS L gr gv V) (j + 1) W w' (.returned (.tuple #[]))) :=
    Lib.hid fun W2 hb => (text_any gw q (encJ r j) 0 100 r.t W2 (hW.below hb) (by omega) (by decide) (by decide) (by omega)).mono fun y w' hD => have hS := hI.step ht hx hb hL hW hq hD; ⟨hD.1, ⟨hS.2.1.2.1.cell 0, hS.2.1.1.cell 8⟩, hS⟩
  have HB := Lib.hid (bdrew1 W)
  clear hx hln h1 h2 h3 hI hW hq ht hL
  go_enter Try.func40, Try.ntmps40
  go_wp2_with fail
  go_region_held3 (fun w' => w'.cell? ⟨gv, 0, none⟩ = some (.pointer (some ⟨gw, 0, none⟩)) ∧ w'.cell? ⟨gr, 8, none⟩ = some (.string r.t)) (first | (refine ⟨?_, ?_⟩ <;> assumption) | go_keep)
    (first
      | (go_at_call 41; ((refine (HC.out _ HB.out).mono ?_); rintro y w2 ⟨rfl, ⟨e1, e2⟩, hS⟩))
      | fail)
  all_goals
    go_end0
    exact hS
end
end Go.Proofs.Ytaekpejpcafnkaa.rw
