/-
  No cell of these rows narrows 'for every input' (looked for: loops, veiled, ifaces, maps, wideKeys, modest, calm, conditions, laid).
  DERIVED. THE GIVEN ROWS OF THIS SEAT. 5 by the template 'for every input the law returns true; each argument reads behind the call as it read before'; 0 by the template 'total and deterministic' (their statements: YtnjipfnajgcibaaTotals.lean).
  GIVEN WITH THE SEED: the statements are not yours to turn. If you find one false, say at which input.
  Laid BY PROGRAM, IN A SANDBOX (cutbox-rows.mjs): the forced cells as the released guide's own fill.sh prints them over the translation c92ea69704d884af… (all of the seat's roots in one cut). By AI agents, Wed Nov 11 2026. No macro, syntax, notation, axiom, sorry.
-/
import Derived.Test.YtnjipfnajgcibaaChecked
import GoSem.Claim
import GoSem.ClaimJoined
import GoSem.ClaimMapViews
import Derived.JoinedTies
import Derived.KernelRfl
namespace Go.Proofs.Ytnjipfnajgcibaa
/- THE CELL 'sum', in the pinned program and in every row, IS THE sha256 OF THE DUMP (.gsa) THAT YtnjipfnajgcibaaProg.lean LOADS. Nothing in Lean hashes anything: it is a label: what it is worth is what the hold of that sum in a sandbox is worth. -/
noncomputable def Try.pinned : Pinned := { name := "ytnjipfnajgcibaa", sum := "c92ea69704d884af90c8e2e2ffdd0b77c3c51677e2d5127f3a572f8108c90902", checked := Try.checked }
namespace Rows
def none {H : Type} : Left H := { results := [], args := [] }

/-- 'vulgatelaw21.LifeMoves': WHATEVER THE INPUT: true; the input reads as it did. -/
def lifeMovesSpec : ChangeSpec := { name := "lifeMoves", fn := fun _ => fun
  | [d1, d2] => { results := [.lit (.bool true)], args := [d1, d2] }
  | _ => none }
def lifeMovesRow : OpenClaim := { program := "ytnjipfnajgcibaa", sum := "c92ea69704d884af90c8e2e2ffdd0b77c3c51677e2d5127f3a572f8108c90902", func := "vulgate/vulgatelaw21.LifeMoves", spec := "lifeMoves", unfollowed := true, recurses := true, apart := false }
def LifeMovesSaid : Prop := lifeMovesRow.holds Try.pinned (OpenSpec.ofChange lifeMovesSpec)

/-- ITS FALSE NEIGHBOUR: 'it returns false'. Refute it at one input. -/
def lifeMovesWrong : ChangeSpec := { name := "lifeMoves", fn := fun _ => fun
  | [d1, d2] => { results := [.lit (.bool false)], args := [d1, d2] }
  | _ => none }
def LifeMovesWrongFalsely : Prop := lifeMovesRow.holds Try.pinned (OpenSpec.ofChange lifeMovesWrong)

/-- 'vulgatelaw21.LifeRuns': WHATEVER THE INPUT: true; the input reads as it did. -/
def lifeRunsSpec : ChangeSpec := { name := "lifeRuns", fn := fun _ => fun
  | [d1, d2] => { results := [.lit (.bool true)], args := [d1, d2] }
  | _ => none }
def lifeRunsRow : OpenClaim := { program := "ytnjipfnajgcibaa", sum := "c92ea69704d884af90c8e2e2ffdd0b77c3c51677e2d5127f3a572f8108c90902", func := "vulgate/vulgatelaw21.LifeRuns", spec := "lifeRuns", unfollowed := true, recurses := true, apart := false }
def LifeRunsSaid : Prop := lifeRunsRow.holds Try.pinned (OpenSpec.ofChange lifeRunsSpec)

/-- ITS FALSE NEIGHBOUR: 'it returns false'. Refute it at one input. -/
def lifeRunsWrong : ChangeSpec := { name := "lifeRuns", fn := fun _ => fun
  | [d1, d2] => { results := [.lit (.bool false)], args := [d1, d2] }
  | _ => none }
def LifeRunsWrongFalsely : Prop := lifeRunsRow.holds Try.pinned (OpenSpec.ofChange lifeRunsWrong)

/-- 'vulgatelaw21.LifePaths': WHATEVER THE INPUT: true; the input reads as it did. -/
def lifePathsSpec : ChangeSpec := { name := "lifePaths", fn := fun _ => fun
  | [d1, d2] => { results := [.lit (.bool true)], args := [d1, d2] }
  | _ => none }
def lifePathsRow : OpenClaim := { program := "ytnjipfnajgcibaa", sum := "c92ea69704d884af90c8e2e2ffdd0b77c3c51677e2d5127f3a572f8108c90902", func := "vulgate/vulgatelaw21.LifePaths", spec := "lifePaths", unfollowed := true, recurses := true, apart := false }
def LifePathsSaid : Prop := lifePathsRow.holds Try.pinned (OpenSpec.ofChange lifePathsSpec)

/-- ITS FALSE NEIGHBOUR: 'it returns false'. Refute it at one input. -/
def lifePathsWrong : ChangeSpec := { name := "lifePaths", fn := fun _ => fun
  | [d1, d2] => { results := [.lit (.bool false)], args := [d1, d2] }
  | _ => none }
def LifePathsWrongFalsely : Prop := lifePathsRow.holds Try.pinned (OpenSpec.ofChange lifePathsWrong)

/-- 'vulgatelaw21.LifeParts': WHATEVER THE INPUT: true; the input reads as it did. -/
def lifePartsSpec : ChangeSpec := { name := "lifeParts", fn := fun _ => fun
  | [d1, d2, d3] => { results := [.lit (.bool true)], args := [d1, d2, d3] }
  | _ => none }
def lifePartsRow : OpenClaim := { program := "ytnjipfnajgcibaa", sum := "c92ea69704d884af90c8e2e2ffdd0b77c3c51677e2d5127f3a572f8108c90902", func := "vulgate/vulgatelaw21.LifeParts", spec := "lifeParts", unfollowed := true, recurses := true, apart := false }
def LifePartsSaid : Prop := lifePartsRow.holds Try.pinned (OpenSpec.ofChange lifePartsSpec)

/-- ITS FALSE NEIGHBOUR: 'it returns false'. Refute it at one input. -/
def lifePartsWrong : ChangeSpec := { name := "lifeParts", fn := fun _ => fun
  | [d1, d2, d3] => { results := [.lit (.bool false)], args := [d1, d2, d3] }
  | _ => none }
def LifePartsWrongFalsely : Prop := lifePartsRow.holds Try.pinned (OpenSpec.ofChange lifePartsWrong)

/-- 'vulgatelaw21.LifeWords': WHATEVER THE INPUT: true; the input reads as it did. -/
def lifeWordsSpec : ChangeSpec := { name := "lifeWords", fn := fun _ => fun
  | [d1, d2] => { results := [.lit (.bool true)], args := [d1, d2] }
  | _ => none }
def lifeWordsRow : OpenClaim := { program := "ytnjipfnajgcibaa", sum := "c92ea69704d884af90c8e2e2ffdd0b77c3c51677e2d5127f3a572f8108c90902", func := "vulgate/vulgatelaw21.LifeWords", spec := "lifeWords", unfollowed := true, recurses := true, apart := false }
def LifeWordsSaid : Prop := lifeWordsRow.holds Try.pinned (OpenSpec.ofChange lifeWordsSpec)

/-- ITS FALSE NEIGHBOUR: 'it returns false'. Refute it at one input. -/
def lifeWordsWrong : ChangeSpec := { name := "lifeWords", fn := fun _ => fun
  | [d1, d2] => { results := [.lit (.bool false)], args := [d1, d2] }
  | _ => none }
def LifeWordsWrongFalsely : Prop := lifeWordsRow.holds Try.pinned (OpenSpec.ofChange lifeWordsWrong)

/- THE SECOND FORM. 'bulk': how many values and letters a reading holds, each counted each time it is reached (what is shared counts as often as it is met; a slice's spare places count too). A statement '..UptoSaid' is the law's where the arguments, and the package variables that the reading takes, are together of bulk at most 1048576: NARROWER than '..Said'. Prove '..Said' where nothing that the law and all that it calls make is longer than what came in: it says more and counts as full. Else prove '..UptoSaid'. A law counts once. -/
mutual
def uptoBulk {H : Type} : DataW H → Nat
  | .lit (.string bytes) => bytes.length + 1
  | .lit _ => 1
  | .nil => 1
  | .ptr d => uptoBulk d + 1
  | .slice elems spare => uptoBulkAll elems + uptoBulkAll spare + 1
  | .agg parts => uptoBulkAll parts + 1
  | .iface _ d => uptoBulk d + 1
  | .map entries => uptoBulkEntries entries + 1
  | .held _ => 1
def uptoBulkAll {H : Type} : List (DataW H) → Nat
  | [] => 0
  | d :: r => uptoBulk d + uptoBulkAll r
def uptoBulkEntries {H : Type} : List (Lit × DataW H) → Nat
  | [] => 0
  | x :: r => uptoBulkEntry x + uptoBulkEntries r
def uptoBulkEntry {H : Type} : Lit × DataW H → Nat
  | (.string bytes, d) => bytes.length + uptoBulk d + 1
  | (_, d) => uptoBulk d + 1
 end
def uptoSmall : (H : Type) → List (DataW H) → Bool := fun _ ds => decide (uptoBulkAll ds ≤ 1048576)
def OpenSpec.upto (s : _root_.Go.ChangeSpec) : _root_.Go.OpenSpec := { _root_.Go.OpenSpec.ofChange s with cond := some uptoSmall }

/-- 'vulgatelaw21.LifeMoves', WHERE WHAT IT READS IS OF BULK AT MOST 1048576: true; the input reads as it did. -/
def lifeMovesUptoRow : OpenClaim := { program := "ytnjipfnajgcibaa", sum := "c92ea69704d884af90c8e2e2ffdd0b77c3c51677e2d5127f3a572f8108c90902", func := "vulgate/vulgatelaw21.LifeMoves", spec := "lifeMoves", unfollowed := true, recurses := true, apart := false, narrowed := true }
def LifeMovesUptoSaid : Prop := lifeMovesUptoRow.holds Try.pinned (OpenSpec.upto lifeMovesSpec)

/-- 'vulgatelaw21.LifeRuns', WHERE WHAT IT READS IS OF BULK AT MOST 1048576: true; the input reads as it did. -/
def lifeRunsUptoRow : OpenClaim := { program := "ytnjipfnajgcibaa", sum := "c92ea69704d884af90c8e2e2ffdd0b77c3c51677e2d5127f3a572f8108c90902", func := "vulgate/vulgatelaw21.LifeRuns", spec := "lifeRuns", unfollowed := true, recurses := true, apart := false, narrowed := true }
def LifeRunsUptoSaid : Prop := lifeRunsUptoRow.holds Try.pinned (OpenSpec.upto lifeRunsSpec)

/-- 'vulgatelaw21.LifePaths', WHERE WHAT IT READS IS OF BULK AT MOST 1048576: true; the input reads as it did. -/
def lifePathsUptoRow : OpenClaim := { program := "ytnjipfnajgcibaa", sum := "c92ea69704d884af90c8e2e2ffdd0b77c3c51677e2d5127f3a572f8108c90902", func := "vulgate/vulgatelaw21.LifePaths", spec := "lifePaths", unfollowed := true, recurses := true, apart := false, narrowed := true }
def LifePathsUptoSaid : Prop := lifePathsUptoRow.holds Try.pinned (OpenSpec.upto lifePathsSpec)

/-- 'vulgatelaw21.LifeParts', WHERE WHAT IT READS IS OF BULK AT MOST 1048576: true; the input reads as it did. -/
def lifePartsUptoRow : OpenClaim := { program := "ytnjipfnajgcibaa", sum := "c92ea69704d884af90c8e2e2ffdd0b77c3c51677e2d5127f3a572f8108c90902", func := "vulgate/vulgatelaw21.LifeParts", spec := "lifeParts", unfollowed := true, recurses := true, apart := false, narrowed := true }
def LifePartsUptoSaid : Prop := lifePartsUptoRow.holds Try.pinned (OpenSpec.upto lifePartsSpec)

/-- 'vulgatelaw21.LifeWords', WHERE WHAT IT READS IS OF BULK AT MOST 1048576: true; the input reads as it did. -/
def lifeWordsUptoRow : OpenClaim := { program := "ytnjipfnajgcibaa", sum := "c92ea69704d884af90c8e2e2ffdd0b77c3c51677e2d5127f3a572f8108c90902", func := "vulgate/vulgatelaw21.LifeWords", spec := "lifeWords", unfollowed := true, recurses := true, apart := false, narrowed := true }
def LifeWordsUptoSaid : Prop := lifeWordsUptoRow.holds Try.pinned (OpenSpec.upto lifeWordsSpec)

end Rows
end Go.Proofs.Ytnjipfnajgcibaa
