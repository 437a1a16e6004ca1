/-
  The walks of layer 10: a record's fields are read, by the closures that the record is visited with.
-/
import Derived.Test.YtaekpejpcafnkaaRecD
import Derived.Test.YtaekpejpcafnkaaMc
import Derived.Test.YtaekpejpcafnkaaWireL
namespace Go.Proofs.Ytaekpejpcafnkaa.rw
open Go.RowKit Go.Proofs.Ytaekpejpcafnkaa.ba Go.Proofs.Ytaekpejpcafnkaa.rp Go.Proofs.Ytaekpejpcafnkaa.dp Go.Proofs.Ytaekpejpcafnkaa.dw Go.Proofs.Ytaekpejpcafnkaa.wp Go.Proofs.Ytaekpejpcafnkaa.ww
set_option maxRecDepth 8000
set_option linter.unusedVariables false

/-- So many fields are read: the record, the reader's variable, the odd mark, the visitor, the reader. -/
def RI (B gr gv go gi V : Nat) (vc : Array Value) (k : Int) (s0 : St) (j : Nat) (W : World) : Prop :=
  Blk W gr 30 (cellsOf (rdJ k s0 j).r) ∧ Blk W gv 59 #[.pointer (some ⟨gi, 0, none⟩)] ∧ Blk W go 4 #[.bool (rdJ k s0 j).o] ∧ Blk W V 77 vc ∧ Rd B W gi (rdJ k s0 j).l (rdJ k s0 j).e ∧ (rdJ k s0 j).r.ok
def RS (gr go gi : Nat) (j : Nat) : Prop := (j = gr ∨ j = go) ∨ j = gi

section
variable {B gr gv go gi V : Nat} {vc : Array Value} {k : Int} {s0 : St} {j : Nat} {W w1 : World}
theorem blk_ne {w : World} {a b : Nat} {t t' : TypeId} {c c' : Array Value} (h : Blk w a t c) (h' : Blk w b t' c') (ht : t ≠ t') : a ≠ b := by
  intro e
  subst e
  exact ht (h.one h').2
theorem Rd.blk {w : World} {g : Nat} {l : List Int} {e : Int} (h : Rd B w g l e) : ∃ cs, Blk w g 97 cs := by
  obtain ⟨a, c, hb, _⟩ := h
  exact ⟨_, hb⟩
/-- A cell of a block that is no reader and no row of bytes is set. -/
theorem Rd.set_ {w : World} {g b i : Nat} {l : List Int} {e : Int} {t : TypeId} {cs : Array Value} (h : Rd B w g l e) (hb : Blk w b t cs) (h1 : t ≠ 5) (h2 : t ≠ 97) (v : Value) : Rd B (w.setCell ⟨b, i, none⟩ v) g l e := by
  obtain ⟨cs2, hg⟩ := Rd.blk h
  exact h.kept (S := fun j => j = b) (Kept.of_set v rfl) (fun e => blk_ne hg hb h2.symm e) (fun j cur e hc => by subst e; exact h1 (hb.one hc).2)
theorem RI.drew (h : RI B gr gv go gi V vc k s0 j W) : RI B gr gv go gi V vc k s0 j W.drew := h
/-- A field is read, and put into its place. -/
theorem RI.step {x : Nat × Nat} {v : Value} (h : RI B gr gv go gi V vc k s0 j W) (hx : (usesK k)[j]? = some x) (hD : RdDone B W w1 gi (rdF (rdJ k s0 j) x).l (rdF (rdJ k s0 j) x).e)
    (hv : (cellsOf (rdJ k s0 j).r).setIfInBounds x.2 v = cellsOf (rdF (rdJ k s0 j) x).r) (ho : (rdF (rdJ k s0 j) x).o = (rdJ k s0 j).o) :
    Step (RI B gr gv go gi V vc k s0) (RS gr go gi) (j + 1) W (w1.setCell ⟨gr, x.2, none⟩ v) (.returned (.tuple #[])) := by
  obtain ⟨h1, h2, h3, h4, h5, h6⟩ := h
  obtain ⟨cs, hg⟩ := Rd.blk h5
  have hok := (rdF_ok (x := x) h6 h5.bytes).1
  have h1' := h1.kept hD.2 (blk_ne h1 hg (by decide))
  have h2' := h2.kept hD.2 (blk_ne h2 hg (by decide))
  have h3' := h3.kept hD.2 (blk_ne h3 hg (by decide))
  have h4' := h4.kept hD.2 (blk_ne h4 hg (by decide))
  refine ⟨rfl, ?_, (hD.2.mono (S' := RS gr go gi) fun j _ e => .inr e).on (Kept.of_set v (.inl (.inl rfl)))⟩
  unfold RI
  rw [rdJ_succ hx, ho, ← hv]
  exact ⟨h1'.set_ _ _, h2'.far (blk_ne h2' h1' (by decide)) _, h3'.far (blk_ne h3' h1' (by decide)) _, h4'.far (blk_ne h4' h1' (by decide)) _, Rd.set_ hD.1 h1' (by decide) (by decide) v, hok⟩
theorem cells_u {r : R} {off : Nat} (ho : off = 1 ∨ off = 2 ∨ off = 3 ∨ off = 4) (n : Int) : (cellsOf r).setIfInBounds off (.int .u8 n) = cellsOf (setU off n r) := by
  rcases ho with rfl | rfl | rfl | rfl <;> rfl
theorem u8_cell {r : R} {off : Nat} {w : World} (h : Blk w gr 30 (cellsOf r)) (ho : off = 1 ∨ off = 2 ∨ off = 3 ∨ off = 4) : (∃ n, w.cell? ⟨gr, off, none⟩ = some (.int .u8 n)) ∧ w.frozen? ⟨gr, off, none⟩ = false := by
  refine ⟨?_, h.frozen _⟩
  rcases ho with rfl | rfl | rfl | rfl
  · exact ⟨r.s, h.cell 1⟩
  · exact ⟨r.u, h.cell 2⟩
  · exact ⟨r.p, h.cell 3⟩
  · exact ⟨r.m, h.cell 4⟩
set_option maxHeartbeats 1000000 in
theorem rb1_any (off : Nat) (hI : RI B gr gv go gi V vc k s0 j W) (hx : (usesK k)[j]? = some (0, off)) :
    Calls Try.prog 25 (#[.pointer (some ⟨gr, off, none⟩)] ++ #[.pointer (some ⟨gv, 0, none⟩)]) W fun x w' => Step (RI B gr gv go gi V vc k s0) (RS gr go gi) (j + 1) W w' x := by
  obtain ⟨h1, h2, h3, h4, h5, h6⟩ := id hI
  obtain ⟨cs, hg⟩ := Rd.blk h5
  have ho : off = 1 ∨ off = 2 ∨ off = 3 ∨ off = 4 := by have := uses_off _ _ _ _ hx; omega
  have c2 : W.cell? ⟨gv, 0, none⟩ = some (.pointer (some ⟨gi, 0, none⟩)) := h2.cell 0
  have hgr : gr ≠ gi := blk_ne h1 hg (by decide)
  have HC : Hid (Calls Try.prog 22 #[.pointer (some ⟨gi, 0, none⟩)] W fun y w' => ∃ n m : Int, y = .returned (.int .u8 n) ∧ w'.cell? ⟨gr, off, none⟩ = some (.int .u8 m) ∧ w'.frozen? ⟨gr, off, none⟩ = false ∧ Step (RI B gr gv go gi V vc k s0) (RS gr go gi) (j + 1) W (w'.setCell ⟨gr, off, none⟩ (.int .u8 n)) (.returned (.tuple #[]))) :=
    Lib.hid ((rbyte_any gi _ _ W h5).mono fun y w' hD => by
      obtain ⟨⟨m, hm⟩, hf⟩ := u8_cell (h1.kept hD.2.2 hgr) ho
      exact ⟨_, m, hD.1, hm, hf, hI.step hx hD.2 (cells_u ho _) rfl⟩)
  clear h1 h2 h3 h4 h5 h6 hg hI hx ho hgr
  go_enter Try.func25, Try.ntmps25
  go_wp2_with ((with_reducible refine HC.out.mono ?_); rintro x W1 ⟨n, m, rfl, hm, hf, hS⟩; have HS := Lib.hid hS; clear hS)
  go_end0
  exact HS.out
/-- The mark is read, and put into its place; whether it is odd. -/
theorem RI.stepG (h : RI B gr gv go gi V vc k s0 j W) (hx : (usesK k)[j]? = some (1, 5)) (hD : RdDone B W w1 gi (rdF (rdJ k s0 j) (1, 5)).l (rdF (rdJ k s0 j) (1, 5)).e) :
    Step (RI B gr gv go gi V vc k s0) (RS gr go gi) (j + 1) W ((w1.setCell ⟨gr, 5, none⟩ (.bool (rdF (rdJ k s0 j) (1, 5)).r.g)).setCell ⟨go, 0, none⟩ (.bool (rdF (rdJ k s0 j) (1, 5)).o)) (.returned (.tuple #[])) := by
  obtain ⟨h1, h2, h3, h4, h5, h6⟩ := h
  obtain ⟨cs, hg⟩ := Rd.blk h5
  have hok := (rdF_ok (x := (1, 5)) h6 h5.bytes).1
  have h1' := h1.kept hD.2 (blk_ne h1 hg (by decide))
  have h2' := h2.kept hD.2 (blk_ne h2 hg (by decide))
  have h3' := h3.kept hD.2 (blk_ne h3 hg (by decide))
  have h4' := h4.kept hD.2 (blk_ne h4 hg (by decide))
  have h1'' := h1'.set_ 5 (.bool (rdF (rdJ k s0 j) (1, 5)).r.g)
  have h3'' := h3'.far (blk_ne h3' h1' (by decide)) (p := ⟨gr, 5, none⟩) (.bool (rdF (rdJ k s0 j) (1, 5)).r.g)
  have h5'' := Rd.set_ (i := 5) hD.1 h1' (by decide) (by decide) (.bool (rdF (rdJ k s0 j) (1, 5)).r.g)
  refine ⟨rfl, ?_, ((hD.2.mono (S' := RS gr go gi) fun j _ e => .inr e).on (Kept.of_set _ (.inl (.inl rfl)))).on (Kept.of_set _ (.inl (.inr rfl)))⟩
  unfold RI
  rw [rdJ_succ hx]
  exact ⟨h1''.far (blk_ne h1' h3' (by decide)) _, (h2'.far (blk_ne h2' h1' (by decide)) _).far (blk_ne h2' h3' (by decide)) _, h3''.set_ 0 _, (h4'.far (blk_ne h4' h1' (by decide)) _).far (blk_ne h4' h3' (by decide)) _, Rd.set_ h5'' h3'' (by decide) (by decide) _, hok⟩
set_option maxHeartbeats 1000000 in
theorem rb2_any (hI : RI B gr gv go gi V vc k s0 j W) (hx : (usesK k)[j]? = some (1, 5)) :
    Calls Try.prog 26 (#[.pointer (some ⟨gr, 5, none⟩)] ++ #[.pointer (some ⟨gv, 0, none⟩), .pointer (some ⟨go, 0, none⟩)]) W fun x w' => Step (RI B gr gv go gi V vc k s0) (RS gr go gi) (j + 1) W w' x := by
  obtain ⟨h1, h2, h3, h4, h5, h6⟩ := id hI
  obtain ⟨cs, hg⟩ := Rd.blk h5
  have c2 : W.cell? ⟨gv, 0, none⟩ = some (.pointer (some ⟨gi, 0, none⟩)) := h2.cell 0
  have hgr : gr ≠ gi := blk_ne h1 hg (by decide)
  have hgo : go ≠ gi := blk_ne h3 hg (by decide)
  have hro : gr ≠ go := blk_ne h1 h3 (by decide)
  have HC : Hid (Calls Try.prog 22 #[.pointer (some ⟨gi, 0, none⟩)] W fun y w' => ∃ n : Int, ∃ b1 b2 : Bool, y = .returned (.int .u8 n) ∧ w'.cell? ⟨gr, 5, none⟩ = some (.bool b1) ∧ w'.frozen? ⟨gr, 5, none⟩ = false ∧ w'.cell? ⟨go, 0, none⟩ = some (.bool b2) ∧ w'.frozen? ⟨go, 0, none⟩ = false ∧ Step (RI B gr gv go gi V vc k s0) (RS gr go gi) (j + 1) W ((w'.setCell ⟨gr, 5, none⟩ (.bool (n == 1))).setCell ⟨go, 0, none⟩ (.bool (decide (1 < n)))) (.returned (.tuple #[]))) :=
    Lib.hid ((rbyte_any gi _ _ W h5).mono fun y w' hD => ⟨_, _, _, hD.1, (h1.kept hD.2.2 hgr).cell 5, (h1.kept hD.2.2 hgr).frozen 5, (h3.kept hD.2.2 hgo).cell 0, (h3.kept hD.2.2 hgo).frozen 0, by
      have := RI.stepG hI hx hD.2
      rw [show (((tkF 0 (fixF 1 (rdJ k s0 j).l) (rdJ k s0 j).l (rdJ k s0 j).e).1 == 1) = (rdF (rdJ k s0 j) (1, 5)).r.g) from by rw [rdF, if_neg (by decide), if_pos rfl]; simp only; rw [Bool.eq_iff_iff]; simp]
      exact this⟩)
  clear h1 h2 h3 h4 h5 h6 hg hI hx hgr hgo
  go_enter Try.func26, Try.ntmps26
  go_wp2_with ((with_reducible refine HC.out.mono ?_); rintro x W1 ⟨n, b1, b2, rfl, d1, d2, d3, d4, hS⟩; have HS := Lib.hid hS; clear hS)
  go_end0
  exact HS.out
set_option maxHeartbeats 1000000 in
theorem rb3_any (hI : RI B gr gv go gi V vc k s0 j W) (hx : (usesK k)[j]? = some (2, 6)) :
    Calls Try.prog 27 (#[.pointer (some ⟨gr, 6, none⟩)] ++ #[.pointer (some ⟨gv, 0, none⟩)]) W fun x w' => Step (RI B gr gv go gi V vc k s0) (RS gr go gi) (j + 1) W w' x := by
  obtain ⟨h1, h2, h3, h4, h5, h6⟩ := id hI
  obtain ⟨cs, hg⟩ := Rd.blk h5
  have c2 : W.cell? ⟨gv, 0, none⟩ = some (.pointer (some ⟨gi, 0, none⟩)) := h2.cell 0
  have hgr : gr ≠ gi := blk_ne h1 hg (by decide)
  have HC : Hid (Calls Try.prog 28 #[.pointer (some ⟨gi, 0, none⟩), .int .u64 4294967295] W fun y w' => ∃ n m : Int, y = .returned (.int .u64 n) ∧ (0 ≤ n ∧ n ≤ 4294967295) ∧ w'.cell? ⟨gr, 6, none⟩ = some (.int .u32 m) ∧ w'.frozen? ⟨gr, 6, none⟩ = false ∧ Step (RI B gr gv go gi V vc k s0) (RS gr go gi) (j + 1) W (w'.setCell ⟨gr, 6, none⟩ (.int .u32 n)) (.returned (.tuple #[]))) :=
    Lib.hid ((rnumber_any gi 4294967295 _ _ W h5).mono fun y w' hD => ⟨_, _, hD.1, tk_bounds (fun n : Int => 0 ≤ n ∧ n ≤ 4294967295) 0 _ _ _ (by omega) (numF_most _ _ (by omega) h5.bytes), (h1.kept hD.2.2 hgr).cell 6, (h1.kept hD.2.2 hgr).frozen 6, hI.step hx hD.2 rfl rfl⟩)
  clear h1 h2 h3 h4 h5 h6 hg hI hx hgr
  go_enter Try.func27, Try.ntmps27
  go_wp2_with ((with_reducible refine HC.out.mono ?_); rintro x W1 ⟨n, m, rfl, ⟨n0, n1⟩, d1, d2, hS⟩; have hw32 : IntKind.u32.wrap n = n := IntWalk.u32_in _ ⟨n0, n1⟩; have HS := Lib.hid hS; clear hS)
  go_end0
  exact HS.out
set_option maxHeartbeats 1000000 in
theorem rb4_any (hI : RI B gr gv go gi V vc k s0 j W) (hx : (usesK k)[j]? = some (3, 7)) :
    Calls Try.prog 29 (#[.pointer (some ⟨gr, 7, none⟩)] ++ #[.pointer (some ⟨gv, 0, none⟩)]) W fun x w' => Step (RI B gr gv go gi V vc k s0) (RS gr go gi) (j + 1) W w' x := by
  obtain ⟨h1, h2, h3, h4, h5, h6⟩ := id hI
  obtain ⟨cs, hg⟩ := Rd.blk h5
  have c2 : W.cell? ⟨gv, 0, none⟩ = some (.pointer (some ⟨gi, 0, none⟩)) := h2.cell 0
  have hgr : gr ≠ gi := blk_ne h1 hg (by decide)
  have HC : Hid (Calls Try.prog 28 #[.pointer (some ⟨gi, 0, none⟩), .int .u64 18446744073709551615] W fun y w' => ∃ n m : Int, y = .returned (.int .u64 n) ∧ w'.cell? ⟨gr, 7, none⟩ = some (.int .u64 m) ∧ w'.frozen? ⟨gr, 7, none⟩ = false ∧ Step (RI B gr gv go gi V vc k s0) (RS gr go gi) (j + 1) W (w'.setCell ⟨gr, 7, none⟩ (.int .u64 n)) (.returned (.tuple #[]))) :=
    Lib.hid ((rnumber_any gi 18446744073709551615 _ _ W h5).mono fun y w' hD => ⟨_, _, hD.1, (h1.kept hD.2.2 hgr).cell 7, (h1.kept hD.2.2 hgr).frozen 7, hI.step hx hD.2 rfl rfl⟩)
  clear h1 h2 h3 h4 h5 h6 hg hI hx hgr
  go_enter Try.func29, Try.ntmps29
  go_wp2_with ((with_reducible refine HC.out.mono ?_); rintro x W1 ⟨n, m, rfl, d1, d2, hS⟩; have HS := Lib.hid hS; clear hS)
  go_end0
  exact HS.out
set_option maxHeartbeats 1000000 in
theorem rb5_any (hI : RI B gr gv go gi V vc k s0 j W) (hx : (usesK k)[j]? = some (4, 8)) :
    Calls Try.prog 30 (#[.pointer (some ⟨gr, 8, none⟩)] ++ #[.pointer (some ⟨gv, 0, none⟩)]) W fun x w' => Step (RI B gr gv go gi V vc k s0) (RS gr go gi) (j + 1) W w' x := by
  obtain ⟨h1, h2, h3, h4, h5, h6⟩ := id hI
  obtain ⟨cs, hg⟩ := Rd.blk h5
  have c2 : W.cell? ⟨gv, 0, none⟩ = some (.pointer (some ⟨gi, 0, none⟩)) := h2.cell 0
  have hgr : gr ≠ gi := blk_ne h1 hg (by decide)
  have HC : Hid (Calls Try.prog 31 #[.pointer (some ⟨gi, 0, none⟩), .int .i64 60] W fun y w' => ∃ t m : ByteArray, y = .returned (.string t) ∧ w'.cell? ⟨gr, 8, none⟩ = some (.string m) ∧ w'.frozen? ⟨gr, 8, none⟩ = false ∧ Step (RI B gr gv go gi V vc k s0) (RS gr go gi) (j + 1) W (w'.setCell ⟨gr, 8, none⟩ (.string t)) (.returned (.tuple #[]))) :=
    Lib.hid ((rtext_any gi 60 _ _ W (by decide) (by decide) h5).mono fun y w' hD => ⟨_, _, hD.1, (h1.kept hD.2.2 hgr).cell 8, (h1.kept hD.2.2 hgr).frozen 8, hI.step hx hD.2 rfl rfl⟩)
  clear h1 h2 h3 h4 h5 h6 hg hI hx hgr
  go_enter Try.func30, Try.ntmps30
  go_wp2_with ((with_reducible refine HC.out.mono ?_); rintro x W1 ⟨t, m, rfl, d1, d2, hS⟩; have HS := Lib.hid hS; clear hS)
  go_end0
  exact HS.out
end
end Go.Proofs.Ytaekpejpcafnkaa.rw
