/-
  The walks of layer 3: the document's reader reads a field.
-/
import Derived.Test.YtaekpejpcafnkaaWireV
namespace Go.Proofs.Ytaekpejpcafnkaa.ww
open Go.RowKit Go.Proofs.Ytaekpejpcafnkaa.ba Go.Proofs.Ytaekpejpcafnkaa.dp Go.Proofs.Ytaekpejpcafnkaa.wp Go.Proofs.Ytaekpejpcafnkaa.dw
set_option maxRecDepth 8000
set_option linter.unusedVariables false

/-- What the document's reader tells. -/
def RRd (w w' : World) (a0 : Option Addr) (l0 : List Int) (r : (Int × List Int) × List Int × Int) (x : Ending) : Prop :=
  ∃ (a : Option Addr) (c : Nat), x = .returned (.tuple #[.agg #[.slice a r.2.1.length c, .int .i64 r.2.2], .int .u64 r.1.1, .string (strOfNums r.1.2)]) ∧ r.2.1.length ≤ c ∧ c ≤ maxLen ∧ (∀ W0, Lst .u8 W0 a0 l0 → Lst .u8 W0 a r.2.1) ∧ Below w.heap.size w w'

theorem rread_bad (k n : Nat) (s : ByteArray) (a : Option Addr) (c : Nat) (l : List Int) (e : Int) (w : World) (hc : l.length ≤ c) (hcm : c ≤ maxLen) (hL : Lst .u8 w a l) (he : (e == 0) = false) :
    Calls Try.prog 20 #[.agg #[.slice a l.length c, .int .i64 e], .agg #[.int .i64 k, .int .u64 n, .string s]] w fun x w' => RRd w w' a l ((0, []), l, e) x := by
  go_enter Try.func20, Try.ntmps20
  go_wp2_with fail
  exact bodyPost_ret (v := .tuple #[.agg #[.slice a l.length c, .int .i64 e], .int .u64 0, .string ⟨#[]⟩]) (by simp [results, Try.results20, go_sem]) rfl ⟨a, c, rfl, hc, hcm, fun _ h => h, bthen (bthen (box_below _ _) (box_below _ _)) (box_below _ _)⟩
end Go.Proofs.Ytaekpejpcafnkaa.ww
