/-
  The walks of layer 3: the document's reader.
-/
import Derived.Test.YtapeejndekoicaaWireK
namespace Go.Proofs.Ytapeejndekoicaa.ww
open Go.RowKit Go.Proofs.Ytapeejndekoicaa.ba Go.Proofs.Ytapeejndekoicaa.dp Go.Proofs.Ytapeejndekoicaa.wp Go.Proofs.Ytapeejndekoicaa.dw
set_option linter.unusedVariables false

theorem fail_any (a : Option Addr) (n c : Nat) (e0 e : Int) (w : World) :
    Calls Try.prog 35 #[.agg #[.slice a n c, .int .i64 e0], .int .i64 e] w fun x w' => x = .returned (.tuple #[.agg #[.slice a n c, .int .i64 e], .int .u64 0, .string ⟨#[]⟩]) ∧ Below w.heap.size w w' := by
  go_enter Try.func35, Try.ntmps35
  go_wp2_with fail
  exact bodyPost_ret (v := .tuple #[.agg #[.slice a n c, .int .i64 e], .int .u64 0, .string ⟨#[]⟩]) (by simp [results, Try.results35, go_sem]) rfl ⟨rfl, bthen (box_below _ _) (box_below _ _)⟩
end Go.Proofs.Ytapeejndekoicaa.ww
