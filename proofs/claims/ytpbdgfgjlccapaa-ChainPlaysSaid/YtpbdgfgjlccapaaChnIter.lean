/-
  A range over an iterator that itself ranges over an iterator: an own contract, SeqO: J and Jx abide the turn of whatever new block that is no cells (OwnFrom), and a round's word is of the old blocks' cells (CellsKept) and of the new blocks that are no cells (KeepsFrom).
-/
import Derived.Test.YtpbdgfgjlccapaaBase
import Derived.RangeFuncNested
import Derived.RangeFuncBound
import Derived.RangeFuncCalls
import Derived.RangeFuncLeaves
import Derived.Shelf.Abstract
import Derived.Shelf.RegionOpen
import Derived.OwnWalkIn
import Derived.TacticsInMore
import Derived.LoopNIn
import Derived.LoopIn
namespace Go.Proofs.Ytpbdgfgjlccapaa.it
open Go.RowKit Go.Shelf
set_option maxRecDepth 8000

/-- Every block of cells lies as it lay. -/
structure CellsKept (W W' : World) : Prop where
  size : W.heap.size ≤ W'.heap.size
  same : ∀ (k : Nat) (o : Obj), W.heap[k]? = some o → o.isCells = true → W'.heap[k]? = some o
theorem CellsKept.refl (W : World) : CellsKept W W := ⟨Nat.le_refl _, fun _ _ h _ => h⟩
theorem CellsKept.trans {A B C : World} (h : CellsKept A B) (k : CellsKept B C) : CellsKept A C := ⟨Nat.le_trans h.size k.size, fun i o hi ho => k.same i o (h.same i o hi ho) ho⟩
theorem CellsKept.alloc (W : World) (o : Obj) : CellsKept W (W.alloc o) := ⟨by simp, fun k o' hk _ => (Below.heap_alloc W o k (Array.getElem?_eq_some_iff.1 hk).1).trans hk⟩
theorem CellsKept.putObj {W : World} {l : Nat} {o : Obj} (o' : Obj) (h : W.heap[l]? = some o) (hc : o.isCells = false) : CellsKept W (W.putObj l o') :=
  ⟨by simp, fun k o2 hk ho => by
    by_cases e : k = l
    · subst e
      rw [h] at hk
      cases hk
      rw [hc] at ho
      cases ho
    · exact (World.putObj_heap_other e).trans hk⟩
theorem CellsKept.cell {W W' : World} (h : CellsKept W W') {p : Addr} {v : Value} (hv : W.cell? p = some v) : W'.cell? p = some v := by
  obtain ⟨o, ho, hc⟩ := cells_of_cell hv
  exact (World.cell?_of_block (w := W) ((h.same _ _ ho hc).trans ho.symm)).trans hv
/-- A turn of a block laid since: the cells of A lie still. -/
theorem CellsKept.grown {A W W' : World} {row : Option Nat} (h : CellsKept A W) (hg : W.grownBy W' row) (hr : ∀ r, row = some r → ∃ o : Obj, W.heap[r]? = some o ∧ o.isCells = false) : CellsKept A W' :=
  ⟨Nat.le_trans h.size hg.size, fun k o hk ho => by
    have h1 := h.same k o hk ho
    refine (hg.block k (Array.getElem?_eq_some_iff.1 h1).1 (fun e => ?_)).trans h1
    obtain ⟨o', ho', hc'⟩ := hr k e.symm
    rw [h1] at ho'
    cases ho'
    rw [ho] at hc'
    cases hc'⟩

theorem keeps_mono {B B' : Nat} {W W' : World} (h : KeepsFrom B W W') (hB : B ≤ B') : KeepsFrom B' W W' := ⟨h.size, fun k o hk => h.same k o (Nat.le_trans hB hk)⟩
theorem ownfrom_mono {β : Type} {B B' : Nat} {I : β → World → Prop} (h : OwnFrom B I) (hB : B ≤ B') : OwnFrom B' I :=
  fun s W W' row hs hg hr => h s W W' row hs hg (fun r e => ⟨Nat.le_trans hB (hr r e).1, (hr r e).2⟩)
/-- 'The cell p holds v' is OwnFrom. -/
theorem ownfrom_cell {β : Type} (B : Nat) (p : Addr) (f : β → Value) : OwnFrom B (fun s W => W.cell? p = some (f s)) :=
  fun s W W' row hs hg hr => by
    obtain ⟨o, ho, hc⟩ := cells_of_cell hs
    refine (World.cell?_of_block (w := W) (hg.block _ (Array.getElem?_eq_some_iff.1 ho).1 (fun e => ?_))).trans hs
    obtain ⟨_, o', ho', hc'⟩ := hr _ e.symm
    rw [ho] at ho'
    cases ho'
    rw [hc] at hc'
    cases hc'

variable {F : Fence} {n : Nat} {P : Program}

theorem room_none {F : Fence} (hd : F.depth = none) (k : Nat) : F.room k := fun d h => by rw [hd] at h; cases h
theorem round_any {F : Fence} (hd : F.depth = none) {m m' : Nat} {P : Program} {l : Nat} {f : FuncId} {tmps : Array Value} {assign body : Code} {w : World} {R : Ending → World → Prop}
    (h : RoundIn F m P l f tmps assign body w R) : RoundIn F m' P l f tmps assign body w R := ⟨h.1, fun c cs _ => h.2 c cs (room_none hd _)⟩

/-- THE CONTRACT. -/
def SeqO {α : Type} (F : Fence) (n : Nat) (P : Program) (g : Nat) (lb : Array Value) (encs : α → Array Value) (S Sp : List α → Prop) (N : Nat) (w : World) : Prop :=
  ∀ (l : Nat) (J Jx : List α → World → Prop) (W : World), Below w.heap.size w W → OwnFrom W.heap.size J → OwnFrom W.heap.size Jx →
    (∀ pre x W1, J pre W1 → pre.length < N → YieldAt F (n - 1) P l (encs x) W1 fun e W' =>
      (e = .returned (.bool true) ∧ J (pre ++ [x]) W' ∧ CellsKept W1 W' ∧ KeepsFrom W.heap.size W1 W') ∨ (e = .returned (.bool false) ∧ Jx (pre ++ [x]) W' ∧ KeepsFrom W.heap.size W1 W')) →
    J [] W →
    CallsIn F n P g (#[.func (.yield l) #[] #[]] ++ lb) W fun e W' => (∃ v, e = .returned v) ∧ ((∃ xs, S xs ∧ J xs W') ∨ (∃ pre, Sp pre ∧ Jx pre W'))

/-- How the body of a round may be left: off its end, or by 'return'. -/
def roPost {α : Type} (B : Nat) (I Ix : List α → World → Prop) (xs : List α) (W : World) : Exit → Act → World → Prop
  | .normal, _, W' => KeepsFrom B W W' ∧ CellsKept W W' ∧ I xs W'
  | .ret, _, W' => KeepsFrom B W W' ∧ Ix xs W'
  | _, _, _ => False

/-- The two blocks that a loop lays: they lie at B and B + 1. -/
def Books (B : Nat) (r : Loop) (W : World) : Prop := W.heap[B + 1]? = some (.loop r) ∧ W.heap[B]? = some (.deferred (some []))
theorem Books.kept {B : Nat} {r : Loop} {W W' : World} (h : Books B r W) (k : KeepsFrom B W W') : Books B r W' := ⟨k.same _ _ (by omega) h.1 rfl, k.same _ _ (Nat.le_refl _) h.2 rfl⟩
theorem Books.turn {B : Nat} {r : Loop} {W : World} (h : Books B r W) (r' : Loop) : Books B r' (W.putObj (B + 1) (.loop r')) :=
  ⟨World.putObj_heap_same (Array.getElem?_eq_some_iff.1 h.1).1, (World.putObj_heap_other (by omega)).trans h.2⟩
theorem Books.later {B B' : Nat} {r : Loop} {W W' : World} {row : Option Nat} (h : Books B r W) (hB : B + 1 < B') (hg : W.grownBy W' row) (hr : ∀ j, row = some j → B' ≤ j) : Books B r W' :=
  ⟨(hg.block _ (Array.getElem?_eq_some_iff.1 h.1).1 (fun e => by have := hr _ e.symm; omega)).trans h.1, (hg.block _ (Array.getElem?_eq_some_iff.1 h.2).1 (fun e => by have := hr _ e.symm; omega)).trans h.2⟩

theorem wpIn_rangeFunc_O {α : Type} {g : Operand} {ps : Array Tmp} {assign body : Code} {Q : Exit → Act → World → Prop} {a : Act} {w : World}
    (hro : F.round = none) (h1 : 1 ≤ n) {gf : Nat} {lb : Array Value} (hg : a.eval g = .func (.func gf) #[] lb) (hFg : F.fn gf) (eg : ∀ args w, (callFunc gf args).run P w = .ok (.enter gf args) w)
    {encs : α → Array Value} {S Sp : List α → Prop} {N : Nat} {w0 : World} (hseq : SeqO F (n - 1) P gf lb encs S Sp N w0) (hb0 : Below w0.heap.size w0 w) (hps : ∀ x, (encs x).size = ps.size)
    (I Ix : List α → World → Prop) (hI : OwnFrom w.heap.size I) (hIx : OwnFrom w.heap.size Ix) (h0 : I [] w) (Ax : α → Act → World → Prop) (hAx : ∀ x a', OwnFrom w.heap.size (fun (_ : Unit) W => Ax x a' W))
    (hassign : ∀ (l : Nat) (pre : List α) (x : α) (W : World) (K : Act → World → Prop), I pre W → (w.heap.size ≤ W.heap.size) → (∀ a' W', KeepsFrom w.heap.size W W' → CellsKept W W' → I pre W' → Ax x a' W' → K a' W') →
      assign.wpIn (F.inRound l) (n - 1 - 1) P (Exit.then K (fun _ _ _ => False)) { tmps := (ps.zip (encs x)).foldl (fun t (p, v) => t.setIfInBounds p v) a.tmps, defers := [] } W)
    (hbody : ∀ (l : Nat) (pre : List α) (x : α) (a' : Act) (W : World), w.heap.size ≤ W.heap.size → I pre W → Ax x a' W → pre.length < N → body.wpIn (F.inRound l) (n - 1 - 1) P (roPost w.heap.size I Ix (pre ++ [x]) W) a' W)
    (hdone : ∀ (D : Nat) (xs : List α) (W : World), w.heap.size ≤ D → S xs → I xs W → W.heap[D]? = some (.deferred (some [])) → Q .normal { a with defers := { target := .collected D, args := #[] } :: a.defers } W)
    (hstop : ∀ (D : Nat) (pre : List α) (W : World), w.heap.size ≤ D → Sp pre → Ix pre W → W.heap[D]? = some (.deferred (some [])) → Code.ret.wpIn F n P Q { a with defers := { target := .collected D, args := #[] } :: a.defers } W) :
    (Code.rangeFunc g ps assign body).wpIn F n P Q a w := by
  refine wpIn_rangeFunc fun fn hfn => ?_
  rw [hro]
  obtain ⟨rec, hrec⟩ : ∃ rec : LoopState → Option Code → Loop, rec = fun st pe => { state := st, pending := pe, fn, tmps := a.tmps, params := ps, assign, body, defers := w.heap.size } := ⟨_, rfl⟩
  obtain ⟨W1, hW1⟩ : ∃ W1, W1 = (w.alloc (.deferred (some []))).alloc (.loop (rec .ready none)) := ⟨_, rfl⟩
  have hsz : W1.heap.size = w.heap.size + 2 := by rw [hW1]; simp
  have hbk : Books w.heap.size (rec .ready none) W1 := by
    rw [hW1]
    constructor
    · have := World.alloc_heap_new (w.alloc (.deferred (some []))) (.loop (rec .ready none))
      rwa [World.size_alloc] at this
    · exact (Below.heap_alloc _ _ _ (by simp)).trans (World.alloc_heap_new w _)
  have hI1 : I [] W1 := by rw [hW1]; exact hI.alloc _ (hI.alloc _ h0)
  have hb1 : Below w0.heap.size w0 W1 := by
    rw [hW1]
    exact hb0.trans ((((Below.refl _ w).alloc (Nat.le_refl _) _).alloc (by simp) _).mono hb0.size)
  refine ⟨w.heap.size + 1, [{ target := .collected w.heap.size, args := #[] }], W1, { target := .fn (.func gf) lb, args := #[.func (.yield (w.heap.size + 1)) #[] #[]] }, W1, gf,
    #[.func (.yield (w.heap.size + 1)) #[] #[]] ++ lb, W1, ?_, ?_, ?_, ?_, fun _ => h1, ?_⟩
  · rw [hW1, hrec]
    exact run_enterLoop_outer _ _ _ _ _
  · simp only [resolve, hg]
    simp [go_sem]
  · intro f' hf'
    simp [Target.leads] at hf'
    subst hf'
    exact hFg
  · simp [invoke, go_sem, eg]
  have hJ : OwnFrom W1.heap.size (fun pre W => I pre W ∧ Books w.heap.size (rec .ready none) W) := fun s A B row hs hgr hr =>
    ⟨(ownfrom_mono hI (by omega)) s A B row hs.1 hgr hr, hs.2.later (B' := W1.heap.size) (by omega) hgr (fun j e => (hr j e).1)⟩
  have hJx : OwnFrom W1.heap.size (fun pre W => Ix pre W ∧ Books w.heap.size (rec .done (some .ret)) W) := fun s A B row hs hgr hr =>
    ⟨(ownfrom_mono hIx (by omega)) s A B row hs.1 hgr hr, hs.2.later (B' := W1.heap.size) (by omega) hgr (fun j e => (hr j e).1)⟩
  refine (hseq (w.heap.size + 1) _ _ W1 hb1 hJ hJx ?_ ⟨hI1, hbk⟩).mono ?_
  · -- one round
    rintro pre x W ⟨hi, hb⟩ hlen
    have hy := run_yield (P := P) (args := encs x) hb.1 (by rw [hrec]; exact hps x)
    rw [hrec] at hy
    refine ⟨fn, _, assign, body, hy, roundIn_of_wpIn hfn (hassign _ pre x W _ hi (by have := (Array.getElem?_eq_some_iff.1 hb.2).1; omega) ?_)⟩
    intro a' Wa hka hca hia hax
    have hba := hb.kept hka
    have hsa := (Array.getElem?_eq_some_iff.1 hba.2).1
    refine ⟨_, run_beginRound hba.1 (by rw [hrec]), ?_⟩
    have hbb := hba.turn { rec .ready none with state := .busy }
    obtain ⟨Wb, hWb⟩ : ∃ Wb, Wb = Wa.putObj (w.heap.size + 1) (.loop { rec .ready none with state := .busy }) := ⟨_, rfl⟩
    rw [← hWb] at hbb ⊢
    have hib : I pre Wb := by rw [hWb]; exact hI.putObj _ hia (by omega) hba.1 rfl
    have haxb : Ax x a' Wb := by rw [hWb]; exact (hAx x a').putObj (s := ()) _ hax (by omega) hba.1 rfl
    have hcb : CellsKept W Wb := by rw [hWb]; exact hca.trans (CellsKept.putObj _ hba.1 rfl)
    have hkb : KeepsFrom W1.heap.size W Wb := (keeps_mono hka (by omega)).trans (KeepsFrom.of_grownBy (by rw [hWb]; exact grownBy_putObj' _ _ _) (fun j e => by cases e; omega))
    have hend : ∀ (jump : Option Code) (W3 : World), Books w.heap.size { rec .ready none with state := .busy } W3 →
        (Instr.endRound (w.heap.size + 1) jump).run P W3 = .ok (.bool jump.isNone) (W3.putObj (w.heap.size + 1) (.loop (rec (if jump.isNone then .ready else .done) jump))) := fun jump W3 h3 => by
      have := run_endRound (P := P) jump h3.1
      rw [hrec] at this ⊢
      exact this
    refine wpIn_mono (hbody _ pre x a' Wb (by rw [hWb]; simp; omega) hib haxb hlen) ?_
    rintro e a3 W3 hp
    cases e with
    | normal =>
      obtain ⟨hk3, hc3, hi3⟩ := hp
      have hb3 := hbb.kept hk3
      exact ⟨_, _, hend none W3 hb3, .inl ⟨rfl, ⟨hI.putObj _ hi3 (by omega) hb3.1 rfl, hb3.turn _⟩, (hcb.trans hc3).trans (CellsKept.putObj _ hb3.1 rfl),
        (hkb.trans (keeps_mono hk3 (by omega))).trans (KeepsFrom.of_grownBy (grownBy_putObj' _ _ _) (fun j e => by cases e; omega))⟩⟩
    | ret =>
      obtain ⟨hk3, hi3⟩ := hp
      have hb3 := hbb.kept hk3
      exact ⟨_, _, hend (some .ret) W3 hb3, .inr ⟨rfl, ⟨hIx.putObj _ hi3 (by omega) hb3.1 rfl, hb3.turn _⟩,
        (hkb.trans (keeps_mono hk3 (by omega))).trans (KeepsFrom.of_grownBy (grownBy_putObj' _ _ _) (fun j e => by cases e; omega))⟩⟩
    | exit id => exact hp.elim
    | goto t => exact hp.elim
    | panic ch => exact hp.elim
    | outgrown => exact hp.elim
  · -- behind the iterator
    rintro e W2 ⟨⟨v, rfl⟩, (⟨xs, hS, hi, hb⟩ | ⟨pre, hSp, hi, hb⟩)⟩
    · refine ⟨none, _, by have := run_endLoop (P := P) hb.1 (by rw [hrec]; simp); rw [hrec] at this; exact this, ?_⟩
      exact hdone _ xs _ (Nat.le_refl _) hS (hI.putObj _ hi (by omega) hb.1 rfl) ((World.putObj_heap_other (by omega)).trans hb.2)
    · refine ⟨some .ret, _, by have := run_endLoop (P := P) hb.1 (by rw [hrec]; simp); rw [hrec] at this; exact this, ?_⟩
      exact hstop _ pre _ (Nat.le_refl _) hSp (hIx.putObj _ hi (by omega) hb.1 rfl) ((World.putObj_heap_other (by omega)).trans hb.2)

end Go.Proofs.Ytpbdgfgjlccapaa.it
