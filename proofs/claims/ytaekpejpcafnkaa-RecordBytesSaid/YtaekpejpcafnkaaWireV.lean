/-
  The walks of layer 3: the document's reader.
-/
import Derived.Test.YtaekpejpcafnkaaWireK
namespace Go.Proofs.Ytaekpejpcafnkaa.ww
open Go.RowKit Go.Proofs.Ytaekpejpcafnkaa.ba Go.Proofs.Ytaekpejpcafnkaa.dp Go.Proofs.Ytaekpejpcafnkaa.wp Go.Proofs.Ytaekpejpcafnkaa.dw
set_option maxRecDepth 8000
set_option linter.unusedVariables false

theorem fail_any (a : Option Addr) (n c : Nat) (e0 e : Int) (w : World) :
    Calls Try.prog 48 #[.agg #[.slice a n c, .int .i64 e0], .int .i64 e] w fun x w' => x = .returned (.tuple #[.agg #[.slice a n c, .int .i64 e], .int .u64 0, .string ⟨#[]⟩]) ∧ Below w.heap.size w w' := by
  go_enter Try.func48, Try.ntmps48
  go_wp2_with fail
  exact bodyPost_ret (v := .tuple #[.agg #[.slice a n c, .int .i64 e], .int .u64 0, .string ⟨#[]⟩]) (by simp [results, Try.results48, go_sem]) rfl ⟨rfl, bthen (box_below _ _) (box_below _ _)⟩
end Go.Proofs.Ytaekpejpcafnkaa.ww
