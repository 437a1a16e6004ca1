/-
  The walks of layer 3's law: a field is put; the document's bytes of a field.
-/
import Derived.Test.YtaekpejpcafnkaaWireE
namespace Go.Proofs.Ytaekpejpcafnkaa.ww
open Go.RowKit Go.Proofs.Ytaekpejpcafnkaa.ba Go.Proofs.Ytaekpejpcafnkaa.dp Go.Proofs.Ytaekpejpcafnkaa.wp Go.Proofs.Ytaekpejpcafnkaa.dw
set_option maxRecDepth 8000
set_option linter.unusedVariables false
attribute [local go_sem ↓] Go.wp_at_zero Go.wp_at_succ

/-- A field's bytes. -/
def fb (f : Fld) : List Int := if f.1 = 0 then [((f.2.1 % 256 : Nat) : Int)] else if f.1 = 1 then beB (f.2.1 % 65536) 2 else if f.1 = 2 then beB f.2.1 8 else if f.1 = 3 then smaL f.2.1 else smaL f.2.2.size ++ strL f.2.2
theorem fb_len (f : Fld) (h : good f) : (fb f).length ≤ 210 := by
  have h1 := smaK_len 10 f.2.1
  have h2 := smaK_len 10 f.2.2.size
  have h3 := h.2.2
  unfold fb
  split
  · simp
  · split
    · rw [beB_len]; omega
    · split
      · rw [beB_len]; omega
      · split
        · unfold smaL; omega
        · rw [List.length_append, strL_len]; unfold smaL; omega

theorem box_at (w : World) (v : Value) (t : TypeId) (B : Nat) (hB : B = w.heap.size) : (w.alloc (.cells #[v] t)).cell? ⟨B, 0, none⟩ = some v := by subst hB; exact box_cell w v t
theorem box3 (w : World) (a b c : Value) (t : TypeId) : (w.alloc (.cells #[a, b, c] t)).cell? ⟨w.heap.size, 0, none⟩ = some a ∧ (w.alloc (.cells #[a, b, c] t)).cell? ⟨w.heap.size, 1, none⟩ = some b ∧ (w.alloc (.cells #[a, b, c] t)).cell? ⟨w.heap.size, 2, none⟩ = some c :=
  ⟨(Blk.new w t #[a, b, c]).cell 0, (Blk.new w t #[a, b, c]).cell 1, (Blk.new w t #[a, b, c]).cell 2⟩

end Go.Proofs.Ytaekpejpcafnkaa.ww
