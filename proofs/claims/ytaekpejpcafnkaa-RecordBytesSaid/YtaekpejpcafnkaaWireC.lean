/-
  The walks of layer 3: a writer's methods.
-/
import Derived.Test.YtaekpejpcafnkaaWireB
namespace Go.Proofs.Ytaekpejpcafnkaa.ww
open Go.RowKit Go.Proofs.Ytaekpejpcafnkaa.ba Go.Proofs.Ytaekpejpcafnkaa.dp Go.Proofs.Ytaekpejpcafnkaa.wp Go.Proofs.Ytaekpejpcafnkaa.dw
set_option maxRecDepth 8000
set_option linter.unusedVariables false

theorem mkf (fn : Fn) (first cap : Array Value) (w : World) : (Instr.makeFunc fn first cap).run Try.prog w = .ok (.func fn first cap) w := rfl
theorem cf_number (caps : Array Value) (w : World) : (callFunc 58 caps).run Try.prog w = .ok (.enter 58 caps) w := by kernel_rfl
theorem cf_text (caps : Array Value) (w : World) : (callFunc 60 caps).run Try.prog w = .ok (.enter 60 caps) w := by kernel_rfl

section
variable {w w' w2 : World} {g : Nat} {q : Option Nat} {l : List Int} {e room : Int} {S : Nat → Prop}
theorem Wr.ne (h : Wr w g q l e room) : q ≠ some g := by
  obtain ⟨v, hB, ho, rfl⟩ := h
  rcases own_ne ho hB (by simp) with h | h
  · rw [h]; simp
  · exact h
theorem Wr.lt (h : Wr w g q l e room) : g < w.heap.size ∧ ∀ j, q = some j → j < w.heap.size := by
  obtain ⟨v, hB, ho, rfl⟩ := h
  exact ⟨hB.lt, fun j hj => (ho.lt j hj).2⟩
theorem Wr.kept (h : Wr w g q l e room) (hk : Kept S w w') (hg : ¬ S g) (hq : ∀ j, q = some j → ¬ S j) : Wr w' g q l e room := by
  obtain ⟨v, hB, ho, rfl⟩ := h
  exact ⟨v, hB.kept hk hg, hk.own ho hq, rfl⟩
theorem Wr.below (h : Wr w g q l e room) (hb : Below w.heap.size w w') : Wr w' g q l e room := h.kept (S := fun _ => False) (Kept.of_below hb) (by simp) (by simp)
/-- From an earlier world. -/
theorem WrDone.from (hb : Below w.heap.size w w2) {s : List Int × Int} {x : Ending} (hg : g < w.heap.size) (h : WrDone w2 w' g q s room x) : WrDone w w' g q s room x := by
  obtain ⟨h1, q', h2, h3, h4⟩ := h
  refine ⟨h1, q', h2, (Kept.of_below (S := fun j => j = g ∨ q = some j) hb).on h3, ?_⟩
  rcases h4 with h4 | ⟨k, h4, h5⟩
  · exact .inl h4
  · exact .inr ⟨k, h4, Nat.le_trans hb.size h5⟩
end

theorem box_cell (w : World) (v : Value) (t : TypeId) : (w.alloc (.cells #[v] t)).cell? ⟨w.heap.size, 0, none⟩ = some v := (Blk.new w t #[v]).cell 0
theorem box_below (w : World) (o : Obj) : Below w.heap.size w (w.alloc o) := (Below.refl _ _).alloc (Nat.le_refl _) _

theorem number_any (g : Nat) (q : Option Nat) (l : List Int) (e room : Int) (n : Nat) (w : World) (hW : Wr w g q l e room) (hl : l.length ≤ 1000000) (hr0 : 0 ≤ room) (hr1 : room ≤ 9223372036854775807) (hn : n < 18446744073709551616) :
    Calls Try.prog 38 #[.pointer (some ⟨g, 0, none⟩), .int .u64 n] w fun x w' => WrDone w w' g q (wput room (smaL n) (l, e)) room x := by
  have hb := box_below w (.cells #[.int .u64 n] 23)
  have HF := Lib.hid (field_any 58 #[.pointer (some ⟨w.heap.size, 0, none⟩)] g q l (smaL n) e room _ (hW.below hb) hl (by have := smaK_len 10 n; unfold smaL; omega) hr0 hr1 (cf_number _) (fun _ => made_number w.heap.size n _ hn (box_cell w _ _)))
  have hg := hW.lt.1
  go_enter Try.func38, Try.ntmps38
  go_wp2_with ((with_reducible refine HF.out.mono ?_); rintro x W1 ⟨rfl, hD⟩)
  go_ret
  exact WrDone.from hb hg ⟨rfl, hD⟩
theorem text_any (g : Nat) (q : Option Nat) (l : List Int) (e room : Int) (s : ByteArray) (w : World) (hW : Wr w g q l e room) (hl : l.length ≤ 1000000) (hr0 : 0 ≤ room) (hr1 : room ≤ 9223372036854775807) (hs : s.size ≤ 100000) :
    Calls Try.prog 41 #[.pointer (some ⟨g, 0, none⟩), .string s] w fun x w' => WrDone w w' g q (wput room (smaL s.size ++ strL s) (l, e)) room x := by
  have hb := box_below w (.cells #[.string s] 9)
  have HF := Lib.hid (field_any 60 #[.pointer (some ⟨w.heap.size, 0, none⟩)] g q l (smaL s.size ++ strL s) e room _ (hW.below hb) hl (by have := smaK_len 10 s.size; rw [List.length_append, strL_len]; unfold smaL; omega) hr0 hr1 (cf_text _) (fun _ => made_text w.heap.size s _ (by omega) (box_cell w _ _)))
  have hg := hW.lt.1
  go_enter Try.func41, Try.ntmps41
  go_wp2_with ((with_reducible refine HF.out.mono ?_); rintro x W1 ⟨rfl, hD⟩)
  go_ret
  exact WrDone.from hb hg ⟨rfl, hD⟩

theorem cf_byte' (caps : Array Value) (w : World) : (callFunc 57 caps).run Try.prog w = .ok (.enter 57 caps) w := by kernel_rfl
set_option maxHeartbeats 1000000 in
theorem byte_any (g : Nat) (q : Option Nat) (l : List Int) (e room : Int) (x : Int) (b off : Nat) (w : World) (hW : Wr w g q l e room) (hl : l.length ≤ 1000000) (hr0 : 0 ≤ room) (hr1 : room ≤ 9223372036854775807) (hc : w.cell? ⟨b, off, none⟩ = some (.int .u8 x)) :
    Calls Try.prog 34 #[.pointer (some ⟨g, 0, none⟩), .slice (some ⟨b, off, none⟩) 1 1] w fun y w' => WrDone w w' g q (wput room [x] (l, e)) room y := by
  have hb := box_below w (.cells #[.int .u8 x] 5)
  have HF := Lib.hid (field_any 57 #[.pointer (some ⟨w.heap.size, 0, none⟩)] g q l [x] e room _ (hW.below hb) hl (by simp) hr0 hr1 (cf_byte' _) (fun _ => made_byte w.heap.size x _ (box_cell w _ _)))
  have hg := hW.lt.1
  go_enter Try.func34, Try.ntmps34
  go_wp2_with fail
  go_loopw [9] (fun i wr => (i = .int .i64 0 ∧ wr = w) ∨ (i = .int .i64 1 ∧ WrDone w wr g q (wput room [x] (l, e)) room (.returned (.pointer (some ⟨g, 0, none⟩))))) (fun i _ => 1 - (intOf i).toNat)
  case atStart => exact .inl ⟨rfl, rfl⟩
  case round =>
    rcases hrel with ⟨rfl, rfl⟩ | ⟨rfl, hD⟩
    · go_wp2_with ((with_reducible refine HF.out.mono ?_); rintro x W1 ⟨rfl, hD⟩)
      go_roundw
      case rel => exact .inr ⟨rfl, WrDone.from hb hg ⟨rfl, hD⟩⟩
      case measure => simp [intOf]
    · have HD := Lib.hid hD
      clear hD
      go_wp2_with fail
      go_ret
      exact HD.out
end Go.Proofs.Ytaekpejpcafnkaa.ww
