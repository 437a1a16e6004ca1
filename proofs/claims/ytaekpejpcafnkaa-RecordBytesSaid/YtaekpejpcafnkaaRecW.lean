/-
  The walk of the law RecordBytes: what a round keeps.
-/
import Derived.Test.YtaekpejpcafnkaaRecV
import Derived.Test.YtaekpejpcafnkaaRecP
namespace Go.Proofs.Ytaekpejpcafnkaa.rw
open Go.RowKit Go.Proofs.Ytaekpejpcafnkaa.ba Go.Proofs.Ytaekpejpcafnkaa.rp Go.Proofs.Ytaekpejpcafnkaa.dp Go.Proofs.Ytaekpejpcafnkaa.dw Go.Proofs.Ytaekpejpcafnkaa.wp Go.Proofs.Ytaekpejpcafnkaa.ww
set_option maxRecDepth 8000
set_option linter.unusedVariables false
attribute [local go_sem ↓] Go.wp_at_zero Go.wp_at_succ

def encX (X : List R) : List Int := X.flatMap fun r => if checkF r = 0 then encR r else []
def wantF (X : List R) : Int := (recF X []).2
theorem encX_snoc (X : List R) (r : R) : encX (X ++ [r]) = encX X ++ (if checkF r = 0 then encR r else []) := by simp [encX, List.flatMap_append]
theorem recF_snoc (r : R) : ∀ (X : List R) (acc : List Int), recF (X ++ [r]) acc = if (recF X acc).2 = 0 then (if checkF r = 0 then ((recF X acc).1 ++ encR r, 0) else ([], checkF r)) else recF X acc := by
  intro X
  induction X with
  | nil => intro acc; simp [recF]
  | cons q X ih =>
    intro acc
    rw [List.cons_append, recF, recF]
    by_cases h : checkF q = 0
    · rw [if_pos h, if_pos h, ih]
    · rw [if_neg h, if_neg h, if_neg h]
theorem wantF_snoc (X : List R) (r : R) : wantF (X ++ [r]) = if wantF X = 0 then checkF r else wantF X := by
  unfold wantF
  rw [recF_snoc]
  by_cases h : (recF X []).2 = 0
  · rw [if_pos h, if_pos h]
    by_cases h2 : checkF r = 0
    · rw [if_pos h2, h2]
    · rw [if_neg h2]
  · rw [if_neg h, if_neg h]
theorem want_ways (X : List R) : (wantF X = 0 ∧ recF X [] = (encX X, 0)) ∨ (wantF X ≠ 0 ∧ recF X [] = ([], wantF X)) := by
  rcases recF_ways X [] with ⟨h1, h2⟩ | ⟨h1, h2⟩
  · refine .inl ⟨by unfold wantF; rw [h2], ?_⟩
    rw [h2, List.nil_append]
    congr 1
    unfold encX
    rw [List.flatMap_def, List.flatMap_def]
    congr 1
    exact List.map_congr_left fun r hr => by rw [if_pos (h1 r hr)]
  · exact .inr ⟨h2, Prod.ext h1 rfl⟩
theorem encX_len (X : List R) : (encX X).length ≤ 100 * X.length := by
  induction X with
  | nil => simp [encX]
  | cons r X ih =>
    unfold encX at ih ⊢
    rw [List.flatMap_cons, List.length_append, List.length_cons]
    split
    · next h => have := encR_le r (right_parts h).2.2; omega
    · simp only [List.length_nil]; omega
def kcells (C : Int → Nat) : Array Value := #[.int .i64 (C 0), .int .i64 (C 1), .int .i64 (C 2), .int .i64 (C 3), .int .i64 (C 4), .int .i64 (C 5), .int .i64 (C 6)]
theorem kcells_at (C : Int → Nat) (k : Nat) (h : k ≤ 6) : (kcells C)[k]? = some (.int .i64 (C k)) := by
  have hkk : k = 0 ∨ k = 1 ∨ k = 2 ∨ k = 3 ∨ k = 4 ∨ k = 5 ∨ k = 6 := by omega
  rcases hkk with rfl | rfl | rfl | rfl | rfl | rfl | rfl <;> rfl
theorem kcells_bump (C : Int → Nat) (k : Nat) (h : k ≤ 6) : (kcells C).setIfInBounds k (.int .i64 ((C k : Int) + 1)) = kcells (bump C k) := by
  have hkk : k = 0 ∨ k = 1 ∨ k = 2 ∨ k = 3 ∨ k = 4 ∨ k = 5 ∨ k = 6 := by omega
  rcases hkk with rfl | rfl | rfl | rfl | rfl | rfl | rfl <;> simp [kcells, bump]
theorem own_apart {w : World} {base base' : Nat} {e e' : TypeId} {size size' n n' : Nat} {v v' : Value} {xs xs' : List Value} (h : w.ownsRow base e size v n xs) (h' : w.ownsRow base' e' size' v' n' xs') (hne : e ≠ e') : v.ownBlock = none ∨ v.ownBlock ≠ v'.ownBlock := by
  rcases h'.2 with ⟨rfl, _⟩ | ⟨g', cap', cur', rfl, _, hg', _⟩
  · cases hv : v.ownBlock with
    | none => exact .inl rfl
    | some k => exact .inr (by simp [Value.ownBlock])
  · exact own_ne h hg' (fun cur he => hne (by simp at he; exact he.2.symm))
/-- What the law has at hand: the records, their bytes, the counts. -/
structure RB (w W : World) (x b : Value) (X : List R) (n : Nat) (B : List Int) (C : Int → Nat) : Prop where
  x : W.ownsRow (w.heap.size + 1) 30 9 x n (X.flatMap rcells)
  b : W.ownsRow (w.heap.size + 1) 5 1 b B.length (B.map (Value.int .u8))
  k : Blk W w.heap.size 44 (kcells C)
  bel : Below w.heap.size w W
section
variable {w W W' : World} {x b x' b' : Value} {X : List R} {n : Nat} {B B' : List Int} {C : Int → Nat}
theorem RB.below (h : RB w W x b X n B C) (hb : Below W.heap.size W W') : RB w W' x b X n B C := ⟨own_below h.x hb, own_below h.b hb, h.k.below hb, bthen h.bel hb⟩
theorem RB.lt (h : RB w W x b X n B C) : w.heap.size < W.heap.size := h.k.lt
/-- One record more. -/
theorem RB.more {o : Obj} {r : R} (h : RB w W x b X n B C) (hg : (W.alloc o).grownBy W' x.ownBlock) (ho : W'.ownsRow (w.heap.size + 1) 30 9 x' (n + 1) (X.flatMap rcells ++ rcells r)) : RB w W' x' b (X ++ [r]) (n + 1) B C := by
  have h2 := h.below (box_below W o)
  refine ⟨by rw [List.flatMap_append, List.flatMap_singleton]; exact ho, ?_, ?_, ?_⟩
  · refine h2.b.kept hg ?_
    rcases own_apart h2.b h2.x (by decide) with h3 | h3
    · exact .inl h3
    · exact .inr h3
  · exact h2.k.grown hg (by
      rcases own_ne h2.x h2.k (fun cur e => by simp at e) with h3 | h3
      · exact .inl h3
      · exact .inr h3)
  · exact h2.bel.grown hg (by have := h2.lt; omega) (fun j hj => by have := h2.x.lt j hj; omega)
/-- Some bytes more. -/
theorem RB.bytes {y : List Int} (h : RB w W x b X n B C) (hg : W.grownBy W' b.ownBlock) (ho : W'.ownsRow (w.heap.size + 1) 5 1 b' (B.length + y.length) ((B ++ y).map (Value.int .u8))) : RB w W' x b' X n (B ++ y) C := by
  refine ⟨?_, by rw [List.length_append]; exact ho, ?_, ?_⟩
  · refine h.x.kept hg ?_
    rcases own_apart h.x h.b (by decide) with h3 | h3
    · exact .inl h3
    · exact .inr h3
  · exact h.k.grown hg (by
      rcases own_ne h.b h.k (fun cur e => by simp at e) with h3 | h3
      · exact .inl h3
      · exact .inr h3)
  · exact h.bel.grown hg (by have := h.lt; omega) (fun j hj => by have := h.b.lt j hj; omega)
/-- One more of a kind. -/
theorem RB.count {k : Nat} (h : RB w W x b X n B C) (h6 : k ≤ 6) : RB w (W.setCell ⟨w.heap.size, k, none⟩ (.int .i64 ((C k : Int) + 1))) x b X n B (bump C k) := by
  have hk : Kept (fun j => j = w.heap.size) W (W.setCell ⟨w.heap.size, k, none⟩ (.int .i64 ((C k : Int) + 1))) := Kept.of_set _ rfl
  refine ⟨hk.own h.x (fun j hj e => by have := h.x.lt j hj; omega), hk.own h.b (fun j hj e => by have := h.b.lt j hj; omega), ?_, h.bel.setCell (Nat.le_refl _) _⟩
  rw [← kcells_bump C k h6]
  exact h.k.set_ k _
/-- The box of a record stays what it is while the rows grow. -/
theorem RB.box {W3 : World} {o : Obj} {cs : Array Value} {t : TypeId} (h : RB w W x b X n B C) (hg : ((W.alloc (.cells cs t)).alloc o).grownBy W3 x.ownBlock) : Blk W3 W.heap.size t cs :=
  ((Blk.new W t cs).alloc o).grown hg (by
    cases hx : x.ownBlock with
    | none => exact .inl rfl
    | some j => exact .inr (fun e => by have := h.x.lt j hx; simp at e; omega))
theorem RB.blt (h : RB w W x b X n B C) : ∀ j, b.ownBlock = some j → j < W.heap.size := fun j hj => (h.b.lt j hj).2
end
end Go.Proofs.Ytaekpejpcafnkaa.rw
