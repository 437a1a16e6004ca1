/-
  The walks of layer 3's law: a field is put; the document's bytes of a field.
-/
import Derived.Test.YtapeejndekoicaaWireE
namespace Go.Proofs.Ytapeejndekoicaa.ww
open Go.RowKit Go.Proofs.Ytapeejndekoicaa.ba Go.Proofs.Ytapeejndekoicaa.dp Go.Proofs.Ytapeejndekoicaa.wp Go.Proofs.Ytapeejndekoicaa.dw
set_option linter.unusedVariables false
attribute [local go_sem ↓] Go.wp_at_zero Go.wp_at_succ

/-- A field's bytes. -/
def fb (f : Fld) : List Int := if f.1 = 0 then [((f.2.1 % 256 : Nat) : Int)] else if f.1 = 1 then beB (f.2.1 % 65536) 2 else if f.1 = 2 then beB f.2.1 8 else if f.1 = 3 then smaL f.2.1 else smaL f.2.2.size ++ strL f.2.2
theorem fb_len (f : Fld) (h : good f) : (fb f).length ≤ 210 := by
  have h1 := smaK_len 10 f.2.1
  have h2 := smaK_len 10 f.2.2.size
  have h3 := h.2.2
  unfold fb
  split
  · simp
  · split
    · rw [beB_len]; omega
    · split
      · rw [beB_len]; omega
      · split
        · unfold smaL; omega
        · rw [List.length_append, strL_len]; unfold smaL; omega

theorem box_at (w : World) (v : Value) (t : TypeId) (B : Nat) (hB : B = w.heap.size) : (w.alloc (.cells #[v] t)).cell? ⟨B, 0, none⟩ = some v := by subst hB; exact box_cell w v t
theorem box3 (w : World) (a b c : Value) (t : TypeId) : (w.alloc (.cells #[a, b, c] t)).cell? ⟨w.heap.size, 0, none⟩ = some a ∧ (w.alloc (.cells #[a, b, c] t)).cell? ⟨w.heap.size, 1, none⟩ = some b ∧ (w.alloc (.cells #[a, b, c] t)).cell? ⟨w.heap.size, 2, none⟩ = some c :=
  ⟨(Blk.new w t #[a, b, c]).cell 0, (Blk.new w t #[a, b, c]).cell 1, (Blk.new w t #[a, b, c]).cell 2⟩

set_option maxHeartbeats 2000000 in
theorem put_any (g : Nat) (q : Option Nat) (l : List Int) (e room : Int) (f : Fld) (w : World) (hW : Wr w g q l e room) (hl : l.length ≤ 1000000) (hr0 : 0 ≤ room) (hr1 : room ≤ 9223372036854775807) (hf : good f) :
    Calls Try.prog 11 #[.pointer (some ⟨g, 0, none⟩), .agg #[.int .i64 f.1, .int .u64 f.2.1, .string f.2.2]] w fun x w' => WrDone w w' g q (wput room (fb f) (l, e)) room x := by
  obtain ⟨k, n, s⟩ := f
  obtain ⟨hk, hn, hs⟩ := hf
  simp only at hk hn hs
  have hb := box_below w (.cells #[.int .i64 k, .int .u64 n, .string s] 29)
  have hWb := hW.below hb
  have hg := hW.lt.1
  obtain ⟨d0, d1, d2⟩ := box3 w (.int .i64 k) (.int .u64 n) (.string s) 29
  have hk5 : k = 0 ∨ k = 1 ∨ k = 2 ∨ k = 3 ∨ k = 4 := by omega
  rcases hk5 with rfl | rfl | rfl | rfl | rfl
  · simp only [show ((0 : Nat) : Int) = 0 from rfl] at hb hWb d0 d1 d2 ⊢
    have hb2 := box_below (w.alloc (.cells #[.int .i64 0, .int .u64 n, .string s] 29)) (.cells #[.int .u8 ((n : Int) % 256)] 5)
    have hbb := bthen hb hb2
    rw [show fb (0, n, s) = [(n : Int) % 256] from by simp [fb]]
    have HF := Lib.hid (byte_any g q l e room ((n : Int) % 256) (w.heap.size + 1) 0 _ (hWb.below hb2) hl hr0 hr1 (box_at _ _ _ _ (by simp)))
    go_enter Try.func11, Try.ntmps11
    go_wp2_with ((with_reducible refine HF.out.mono ?_); rintro x W1 ⟨rfl, hD⟩)
    go_ret
    exact WrDone.from hbb hg ⟨rfl, hD⟩
  · simp only [show ((1 : Nat) : Int) = 1 from rfl] at hb hWb d0 d1 d2 ⊢
    have HF := Lib.hid (short_any g q l e room (n % 65536) _ hWb hl hr0 hr1 (by omega))
    rw [show ((n % 65536 : Nat) : Int) = (n : Int) % 65536 from by omega] at HF
    go_enter Try.func11, Try.ntmps11
    go_wp2_with ((with_reducible refine HF.out.mono ?_); rintro x W1 ⟨rfl, hD⟩)
    go_ret
    exact WrDone.from hb hg ⟨rfl, hD⟩
  · simp only [show ((2 : Nat) : Int) = 2 from rfl] at hb hWb d0 d1 d2 ⊢
    have HF := Lib.hid (word_any g q l e room n _ hWb hl hr0 hr1 hn)
    go_enter Try.func11, Try.ntmps11
    go_wp2_with ((with_reducible refine HF.out.mono ?_); rintro x W1 ⟨rfl, hD⟩)
    go_ret
    exact WrDone.from hb hg ⟨rfl, hD⟩
  · simp only [show ((3 : Nat) : Int) = 3 from rfl] at hb hWb d0 d1 d2 ⊢
    have HF := Lib.hid (number_any g q l e room n _ hWb hl hr0 hr1 hn)
    go_enter Try.func11, Try.ntmps11
    go_wp2_with ((with_reducible refine HF.out.mono ?_); rintro x W1 ⟨rfl, hD⟩)
    go_ret
    exact WrDone.from hb hg ⟨rfl, hD⟩
  · simp only [show ((4 : Nat) : Int) = 4 from rfl] at hb hWb d0 d1 d2 ⊢
    have HF := Lib.hid (text_any g q l e room s _ hWb hl hr0 hr1 (by omega))
    go_enter Try.func11, Try.ntmps11
    go_wp2_with ((with_reducible refine HF.out.mono ?_); rintro x W1 ⟨rfl, hD⟩)
    go_ret
    exact WrDone.from hb hg ⟨rfl, hD⟩
end Go.Proofs.Ytapeejndekoicaa.ww
