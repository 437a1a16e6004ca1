/-
  The walks of the laws WireNil and WireWrites.
-/
import Derived.Test.YtapeejndekoicaaWireM
import Derived.Test.YtapeejndekoicaaWireH
import Derived.Lib.Builder
namespace Go.Proofs.Ytapeejndekoicaa.ww
open Go.RowKit Go.Proofs.Ytapeejndekoicaa.ba Go.Proofs.Ytapeejndekoicaa.dp Go.Proofs.Ytapeejndekoicaa.wp Go.Proofs.Ytapeejndekoicaa.dw
set_option linter.unusedVariables false

set_option maxRecDepth 100000 in
set_option maxHeartbeats 2000000 in
theorem wireNil_any (n : Int) (s : ByteArray) (w : World) :
    Calls Try.prog 8 #[.int .i64 n, .string s] w fun x w' => x = .returned (.bool true) ∧ Below w.heap.size w w' := by
  have hbel := box_below w (.cells #[.int .u8 1] 5)
  have HB := Lib.hid (byte_nil 1 w.heap.size 0 _ (box_cell w (.int .u8 1) 5))
  go_enter Try.func8, Try.ntmps8
  go_wp2_with (first
    | (go_at_call 24; ((with_reducible refine HB.out.mono ?_); rintro x W1 ⟨rfl, hb⟩; replace hbel := bthen hbel hb; clear hb))
    | (go_at_call 22; ((with_reducible refine (short_nil _ _).mono ?_); rintro x W2 ⟨rfl, hb⟩; replace hbel := bthen hbel hb; clear hb))
    | (go_at_call 25; ((with_reducible refine (word_nil _ _).mono ?_); rintro x W3 ⟨rfl, hb⟩; replace hbel := bthen hbel hb; clear hb))
    | (go_at_call 26; ((with_reducible refine (number_nil _ _).mono ?_); rintro x W4 ⟨rfl, hb⟩; replace hbel := bthen hbel hb; clear hb))
    | (go_at_call 27; ((with_reducible refine (text_nil _ _).mono ?_); rintro x W5 ⟨rfl, hb⟩; replace hbel := bthen hbel hb; clear hb))
    | (go_at_call 12; ((with_reducible refine (bytes_nil _).mono ?_); rintro x W6 ⟨rfl, rfl⟩))
    | (go_at_call 14; ((with_reducible refine (known_any _).mono ?_); rintro x W7 ⟨rfl, hb⟩; replace hbel := bthen hbel hb; clear hb))
    | (go_at_call 28; ((with_reducible refine (rbyte_nil _).mono ?_); rintro x W8 ⟨rfl, hb⟩; replace hbel := bthen hbel hb; clear hb))
    | (go_at_call 29; ((with_reducible refine (rshort_nil _).mono ?_); rintro x W9 ⟨rfl, hb⟩; replace hbel := bthen hbel hb; clear hb))
    | (go_at_call 30; ((with_reducible refine (rword_nil _).mono ?_); rintro x W10 ⟨rfl, hb⟩; replace hbel := bthen hbel hb; clear hb))
    | (go_at_call 23; ((with_reducible refine (rnumber_nil _ _).mono ?_); rintro x W11 ⟨rfl, hb⟩; replace hbel := bthen hbel hb; clear hb))
    | (go_at_call 31; ((with_reducible refine (rtext_nil _ _).mono ?_); rintro x W12 ⟨rfl, hb⟩; replace hbel := bthen hbel hb; clear hb))
    | (go_at_call 19; ((with_reducible refine (left_nil _).mono ?_); rintro x W13 ⟨rfl, rfl⟩))
    | (go_at_call 20; ((with_reducible refine (err_nil _).mono ?_); rintro x W14 ⟨rfl, rfl⟩))
    | (go_at_call 21; ((with_reducible refine (done_nil _).mono ?_); rintro x W15 ⟨rfl, rfl⟩)))
  go_ret
  exact ⟨ret_bool (by simp), hbel⟩
end Go.Proofs.Ytapeejndekoicaa.ww
