/-
  No cell of these rows narrows 'for every input' (looked for: loops, veiled, ifaces, maps, wideKeys, modest, calm, conditions, laid).
  DERIVED. THE GIVEN ROWS OF THIS SEAT. 6 by the template 'for every input the law returns true; each argument reads behind the call as it read before'; 0 by the template 'total and deterministic' (their statements: YtapeejndekoicaaTotals.lean).
  GIVEN WITH THE SEED: the statements are not yours to turn. If you find one false, say at which input.
  Laid BY PROGRAM, IN A SANDBOX (cutbox-rows.mjs): the forced cells as the released guide's own fill.sh prints them over the translation f61562c48173f254… (all of the seat's roots in one cut). By AI agents, Wed Nov 11 2026. No macro, syntax, notation, axiom, sorry.
-/
import Derived.Test.YtapeejndekoicaaChecked
import GoSem.Claim
import GoSem.ClaimJoined
import GoSem.ClaimMapViews
import Derived.JoinedTies
import Derived.KernelRfl
namespace Go.Proofs.Ytapeejndekoicaa
/- THE CELL 'sum', in the pinned program and in every row, IS THE sha256 OF THE DUMP (.gsa) THAT YtapeejndekoicaaProg.lean LOADS. Nothing in Lean hashes anything: it is a label: what it is worth is what the hold of that sum in a sandbox is worth. -/
noncomputable def Try.pinned : Pinned := { name := "ytapeejndekoicaa", sum := "f61562c48173f254d864a2ac277c5738923de0880f78388350727ab9e6a7ecbd", checked := Try.checked }
namespace Rows
def none {H : Type} : Left H := { results := [], args := [] }

/-- 'vulgatelaw03.WireWrites': WHATEVER THE INPUT: true; the input reads as it did. -/
def wireWritesSpec : ChangeSpec := { name := "wireWrites", fn := fun _ => fun
  | [d1, d2] => { results := [.lit (.bool true)], args := [d1, d2] }
  | _ => none }
def wireWritesRow : OpenClaim := { program := "ytapeejndekoicaa", sum := "f61562c48173f254d864a2ac277c5738923de0880f78388350727ab9e6a7ecbd", func := "vulgate/vulgatelaw03.WireWrites", spec := "wireWrites", unfollowed := true, recurses := true, apart := false }
def WireWritesSaid : Prop := wireWritesRow.holds Try.pinned (OpenSpec.ofChange wireWritesSpec)

/-- ITS FALSE NEIGHBOUR: 'it returns false'. Refute it at one input. -/
def wireWritesWrong : ChangeSpec := { name := "wireWrites", fn := fun _ => fun
  | [d1, d2] => { results := [.lit (.bool false)], args := [d1, d2] }
  | _ => none }
def WireWritesWrongFalsely : Prop := wireWritesRow.holds Try.pinned (OpenSpec.ofChange wireWritesWrong)

/-- 'vulgatelaw03.WireRoom': WHATEVER THE INPUT: true; the input reads as it did. -/
def wireRoomSpec : ChangeSpec := { name := "wireRoom", fn := fun _ => fun
  | [d] => { results := [.lit (.bool true)], args := [d] }
  | _ => none }
def wireRoomRow : OpenClaim := { program := "ytapeejndekoicaa", sum := "f61562c48173f254d864a2ac277c5738923de0880f78388350727ab9e6a7ecbd", func := "vulgate/vulgatelaw03.WireRoom", spec := "wireRoom", unfollowed := true, recurses := true, apart := false }
def WireRoomSaid : Prop := wireRoomRow.holds Try.pinned (OpenSpec.ofChange wireRoomSpec)

/-- ITS FALSE NEIGHBOUR: 'it returns false'. Refute it at one input. -/
def wireRoomWrong : ChangeSpec := { name := "wireRoom", fn := fun _ => fun
  | [d] => { results := [.lit (.bool false)], args := [d] }
  | _ => none }
def WireRoomWrongFalsely : Prop := wireRoomRow.holds Try.pinned (OpenSpec.ofChange wireRoomWrong)

/-- 'vulgatelaw03.WireReads': WHATEVER THE INPUT: true; the input reads as it did. -/
def wireReadsSpec : ChangeSpec := { name := "wireReads", fn := fun _ => fun
  | [d1, d2] => { results := [.lit (.bool true)], args := [d1, d2] }
  | _ => none }
def wireReadsRow : OpenClaim := { program := "ytapeejndekoicaa", sum := "f61562c48173f254d864a2ac277c5738923de0880f78388350727ab9e6a7ecbd", func := "vulgate/vulgatelaw03.WireReads", spec := "wireReads", unfollowed := true, recurses := true, apart := false }
def WireReadsSaid : Prop := wireReadsRow.holds Try.pinned (OpenSpec.ofChange wireReadsSpec)

/-- ITS FALSE NEIGHBOUR: 'it returns false'. Refute it at one input. -/
def wireReadsWrong : ChangeSpec := { name := "wireReads", fn := fun _ => fun
  | [d1, d2] => { results := [.lit (.bool false)], args := [d1, d2] }
  | _ => none }
def WireReadsWrongFalsely : Prop := wireReadsRow.holds Try.pinned (OpenSpec.ofChange wireReadsWrong)

/-- 'vulgatelaw03.WireBack': WHATEVER THE INPUT: true; the input reads as it did. -/
def wireBackSpec : ChangeSpec := { name := "wireBack", fn := fun _ => fun
  | [d] => { results := [.lit (.bool true)], args := [d] }
  | _ => none }
def wireBackRow : OpenClaim := { program := "ytapeejndekoicaa", sum := "f61562c48173f254d864a2ac277c5738923de0880f78388350727ab9e6a7ecbd", func := "vulgate/vulgatelaw03.WireBack", spec := "wireBack", unfollowed := true, recurses := true, apart := false }
def WireBackSaid : Prop := wireBackRow.holds Try.pinned (OpenSpec.ofChange wireBackSpec)

/-- ITS FALSE NEIGHBOUR: 'it returns false'. Refute it at one input. -/
def wireBackWrong : ChangeSpec := { name := "wireBack", fn := fun _ => fun
  | [d] => { results := [.lit (.bool false)], args := [d] }
  | _ => none }
def WireBackWrongFalsely : Prop := wireBackRow.holds Try.pinned (OpenSpec.ofChange wireBackWrong)

/-- 'vulgatelaw03.WireSticks': WHATEVER THE INPUT: true; the input reads as it did. -/
def wireSticksSpec : ChangeSpec := { name := "wireSticks", fn := fun _ => fun
  | [d1, d2, d3] => { results := [.lit (.bool true)], args := [d1, d2, d3] }
  | _ => none }
def wireSticksRow : OpenClaim := { program := "ytapeejndekoicaa", sum := "f61562c48173f254d864a2ac277c5738923de0880f78388350727ab9e6a7ecbd", func := "vulgate/vulgatelaw03.WireSticks", spec := "wireSticks", unfollowed := true, recurses := true, apart := false }
def WireSticksSaid : Prop := wireSticksRow.holds Try.pinned (OpenSpec.ofChange wireSticksSpec)

/-- ITS FALSE NEIGHBOUR: 'it returns false'. Refute it at one input. -/
def wireSticksWrong : ChangeSpec := { name := "wireSticks", fn := fun _ => fun
  | [d1, d2, d3] => { results := [.lit (.bool false)], args := [d1, d2, d3] }
  | _ => none }
def WireSticksWrongFalsely : Prop := wireSticksRow.holds Try.pinned (OpenSpec.ofChange wireSticksWrong)

/-- 'vulgatelaw03.WireNil': WHATEVER THE INPUT: true; the input reads as it did. -/
def wireNilSpec : ChangeSpec := { name := "wireNil", fn := fun _ => fun
  | [d1, d2] => { results := [.lit (.bool true)], args := [d1, d2] }
  | _ => none }
def wireNilRow : OpenClaim := { program := "ytapeejndekoicaa", sum := "f61562c48173f254d864a2ac277c5738923de0880f78388350727ab9e6a7ecbd", func := "vulgate/vulgatelaw03.WireNil", spec := "wireNil", unfollowed := true, recurses := true, apart := false }
def WireNilSaid : Prop := wireNilRow.holds Try.pinned (OpenSpec.ofChange wireNilSpec)

/-- ITS FALSE NEIGHBOUR: 'it returns false'. Refute it at one input. -/
def wireNilWrong : ChangeSpec := { name := "wireNil", fn := fun _ => fun
  | [d1, d2] => { results := [.lit (.bool false)], args := [d1, d2] }
  | _ => none }
def WireNilWrongFalsely : Prop := wireNilRow.holds Try.pinned (OpenSpec.ofChange wireNilWrong)

/- THE SECOND FORM. 'bulk': how many values and letters a reading holds, each counted each time it is reached (what is shared counts as often as it is met; a slice's spare places count too). A statement '..UptoSaid' is the law's where the arguments, and the package variables that the reading takes, are together of bulk at most 1048576: NARROWER than '..Said'. Prove '..Said' where nothing that the law and all that it calls make is longer than what came in: it says more and counts as full. Else prove '..UptoSaid'. A law counts once. -/
mutual
def uptoBulk {H : Type} : DataW H → Nat
  | .lit (.string bytes) => bytes.length + 1
  | .lit _ => 1
  | .nil => 1
  | .ptr d => uptoBulk d + 1
  | .slice elems spare => uptoBulkAll elems + uptoBulkAll spare + 1
  | .agg parts => uptoBulkAll parts + 1
  | .iface _ d => uptoBulk d + 1
  | .map entries => uptoBulkEntries entries + 1
  | .held _ => 1
def uptoBulkAll {H : Type} : List (DataW H) → Nat
  | [] => 0
  | d :: r => uptoBulk d + uptoBulkAll r
def uptoBulkEntries {H : Type} : List (Lit × DataW H) → Nat
  | [] => 0
  | x :: r => uptoBulkEntry x + uptoBulkEntries r
def uptoBulkEntry {H : Type} : Lit × DataW H → Nat
  | (.string bytes, d) => bytes.length + uptoBulk d + 1
  | (_, d) => uptoBulk d + 1
 end
def uptoSmall : (H : Type) → List (DataW H) → Bool := fun _ ds => decide (uptoBulkAll ds ≤ 1048576)
def OpenSpec.upto (s : _root_.Go.ChangeSpec) : _root_.Go.OpenSpec := { _root_.Go.OpenSpec.ofChange s with cond := some uptoSmall }

/-- 'vulgatelaw03.WireWrites', WHERE WHAT IT READS IS OF BULK AT MOST 1048576: true; the input reads as it did. -/
def wireWritesUptoRow : OpenClaim := { program := "ytapeejndekoicaa", sum := "f61562c48173f254d864a2ac277c5738923de0880f78388350727ab9e6a7ecbd", func := "vulgate/vulgatelaw03.WireWrites", spec := "wireWrites", unfollowed := true, recurses := true, apart := false, narrowed := true }
def WireWritesUptoSaid : Prop := wireWritesUptoRow.holds Try.pinned (OpenSpec.upto wireWritesSpec)

/-- 'vulgatelaw03.WireRoom', WHERE WHAT IT READS IS OF BULK AT MOST 1048576: true; the input reads as it did. -/
def wireRoomUptoRow : OpenClaim := { program := "ytapeejndekoicaa", sum := "f61562c48173f254d864a2ac277c5738923de0880f78388350727ab9e6a7ecbd", func := "vulgate/vulgatelaw03.WireRoom", spec := "wireRoom", unfollowed := true, recurses := true, apart := false, narrowed := true }
def WireRoomUptoSaid : Prop := wireRoomUptoRow.holds Try.pinned (OpenSpec.upto wireRoomSpec)

/-- 'vulgatelaw03.WireReads', WHERE WHAT IT READS IS OF BULK AT MOST 1048576: true; the input reads as it did. -/
def wireReadsUptoRow : OpenClaim := { program := "ytapeejndekoicaa", sum := "f61562c48173f254d864a2ac277c5738923de0880f78388350727ab9e6a7ecbd", func := "vulgate/vulgatelaw03.WireReads", spec := "wireReads", unfollowed := true, recurses := true, apart := false, narrowed := true }
def WireReadsUptoSaid : Prop := wireReadsUptoRow.holds Try.pinned (OpenSpec.upto wireReadsSpec)

/-- 'vulgatelaw03.WireBack', WHERE WHAT IT READS IS OF BULK AT MOST 1048576: true; the input reads as it did. -/
def wireBackUptoRow : OpenClaim := { program := "ytapeejndekoicaa", sum := "f61562c48173f254d864a2ac277c5738923de0880f78388350727ab9e6a7ecbd", func := "vulgate/vulgatelaw03.WireBack", spec := "wireBack", unfollowed := true, recurses := true, apart := false, narrowed := true }
def WireBackUptoSaid : Prop := wireBackUptoRow.holds Try.pinned (OpenSpec.upto wireBackSpec)

/-- 'vulgatelaw03.WireSticks', WHERE WHAT IT READS IS OF BULK AT MOST 1048576: true; the input reads as it did. -/
def wireSticksUptoRow : OpenClaim := { program := "ytapeejndekoicaa", sum := "f61562c48173f254d864a2ac277c5738923de0880f78388350727ab9e6a7ecbd", func := "vulgate/vulgatelaw03.WireSticks", spec := "wireSticks", unfollowed := true, recurses := true, apart := false, narrowed := true }
def WireSticksUptoSaid : Prop := wireSticksUptoRow.holds Try.pinned (OpenSpec.upto wireSticksSpec)

/-- 'vulgatelaw03.WireNil', WHERE WHAT IT READS IS OF BULK AT MOST 1048576: true; the input reads as it did. -/
def wireNilUptoRow : OpenClaim := { program := "ytapeejndekoicaa", sum := "f61562c48173f254d864a2ac277c5738923de0880f78388350727ab9e6a7ecbd", func := "vulgate/vulgatelaw03.WireNil", spec := "wireNil", unfollowed := true, recurses := true, apart := false, narrowed := true }
def WireNilUptoSaid : Prop := wireNilUptoRow.holds Try.pinned (OpenSpec.upto wireNilSpec)

end Rows
end Go.Proofs.Ytapeejndekoicaa
