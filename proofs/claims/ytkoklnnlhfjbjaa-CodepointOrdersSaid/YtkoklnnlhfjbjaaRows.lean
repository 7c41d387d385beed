/-
  No cell of these rows narrows 'for every input' (looked for: loops, veiled, ifaces, maps, wideKeys, modest, calm, conditions, laid).
  DERIVED. THE GIVEN ROWS OF THIS SEAT. 9 by the template 'for every input the law returns true; each argument reads behind the call as it read before'; 0 by the template 'total and deterministic' (their statements: YtkoklnnlhfjbjaaTotals.lean).
  GIVEN WITH THE SEED: the statements are not yours to turn. If you find one false, say at which input.
  Laid BY PROGRAM, IN A SANDBOX (cutbox-rows.mjs): the forced cells as the released guide's own fill.sh prints them over the translation 69390a6964b47253… (all of the seat's roots in one cut). By AI agents, Wed Nov 11 2026. No macro, syntax, notation, axiom, sorry.
-/
import Derived.Test.YtkoklnnlhfjbjaaChecked
import GoSem.Claim
import GoSem.ClaimJoined
import GoSem.ClaimMapViews
import Derived.JoinedTies
import Derived.KernelRfl
namespace Go.Proofs.Ytkoklnnlhfjbjaa
/- THE CELL 'sum', in the pinned program and in every row, IS THE sha256 OF THE DUMP (.gsa) THAT YtkoklnnlhfjbjaaProg.lean LOADS. Nothing in Lean hashes anything: it is a label: what it is worth is what the hold of that sum in a sandbox is worth. -/
noncomputable def Try.pinned : Pinned := { name := "ytkoklnnlhfjbjaa", sum := "69390a6964b47253e0d81282bd4d6076a2f872a8eef883734f9e54556b3b0c0f", checked := Try.checked }
namespace Rows
def none {H : Type} : Left H := { results := [], args := [] }

/-- 'obeluslaw01.CodepointRepairs': WHATEVER THE INPUT: true; the input reads as it did. -/
def codepointRepairsSpec : ChangeSpec := { name := "codepointRepairs", fn := fun _ => fun
  | [d] => { results := [.lit (.bool true)], args := [d] }
  | _ => none }
def codepointRepairsRow : OpenClaim := { program := "ytkoklnnlhfjbjaa", sum := "69390a6964b47253e0d81282bd4d6076a2f872a8eef883734f9e54556b3b0c0f", func := "obelus/obeluslaw01.CodepointRepairs", spec := "codepointRepairs", inPlace := ["internal/abi.NoEscape"], apart := false }
def CodepointRepairsSaid : Prop := codepointRepairsRow.holds Try.pinned (OpenSpec.ofChange codepointRepairsSpec)

/-- ITS FALSE NEIGHBOUR: 'it returns false'. Refute it at one input. -/
def codepointRepairsWrong : ChangeSpec := { name := "codepointRepairs", fn := fun _ => fun
  | [d] => { results := [.lit (.bool false)], args := [d] }
  | _ => none }
def CodepointRepairsWrongFalsely : Prop := codepointRepairsRow.holds Try.pinned (OpenSpec.ofChange codepointRepairsWrong)

/-- 'obeluslaw01.CodepointValid': WHATEVER THE INPUT: true; the input reads as it did. -/
def codepointValidSpec : ChangeSpec := { name := "codepointValid", fn := fun _ => fun
  | [d1, d2] => { results := [.lit (.bool true)], args := [d1, d2] }
  | _ => none }
def codepointValidRow : OpenClaim := { program := "ytkoklnnlhfjbjaa", sum := "69390a6964b47253e0d81282bd4d6076a2f872a8eef883734f9e54556b3b0c0f", func := "obelus/obeluslaw01.CodepointValid", spec := "codepointValid", inPlace := ["internal/abi.NoEscape"], apart := false }
def CodepointValidSaid : Prop := codepointValidRow.holds Try.pinned (OpenSpec.ofChange codepointValidSpec)

/-- ITS FALSE NEIGHBOUR: 'it returns false'. Refute it at one input. -/
def codepointValidWrong : ChangeSpec := { name := "codepointValid", fn := fun _ => fun
  | [d1, d2] => { results := [.lit (.bool false)], args := [d1, d2] }
  | _ => none }
def CodepointValidWrongFalsely : Prop := codepointValidRow.holds Try.pinned (OpenSpec.ofChange codepointValidWrong)

/-- 'obeluslaw01.CodepointOffsets': WHATEVER THE INPUT: true; the input reads as it did. -/
def codepointOffsetsSpec : ChangeSpec := { name := "codepointOffsets", fn := fun _ => fun
  | [d1, d2, d3] => { results := [.lit (.bool true)], args := [d1, d2, d3] }
  | _ => none }
def codepointOffsetsRow : OpenClaim := { program := "ytkoklnnlhfjbjaa", sum := "69390a6964b47253e0d81282bd4d6076a2f872a8eef883734f9e54556b3b0c0f", func := "obelus/obeluslaw01.CodepointOffsets", spec := "codepointOffsets", inPlace := ["internal/abi.NoEscape"], apart := false }
def CodepointOffsetsSaid : Prop := codepointOffsetsRow.holds Try.pinned (OpenSpec.ofChange codepointOffsetsSpec)

/-- ITS FALSE NEIGHBOUR: 'it returns false'. Refute it at one input. -/
def codepointOffsetsWrong : ChangeSpec := { name := "codepointOffsets", fn := fun _ => fun
  | [d1, d2, d3] => { results := [.lit (.bool false)], args := [d1, d2, d3] }
  | _ => none }
def CodepointOffsetsWrongFalsely : Prop := codepointOffsetsRow.holds Try.pinned (OpenSpec.ofChange codepointOffsetsWrong)

/-- 'obeluslaw01.CodepointAt': WHATEVER THE INPUT: true; the input reads as it did. -/
def codepointAtSpec : ChangeSpec := { name := "codepointAt", fn := fun _ => fun
  | [d1, d2] => { results := [.lit (.bool true)], args := [d1, d2] }
  | _ => none }
def codepointAtRow : OpenClaim := { program := "ytkoklnnlhfjbjaa", sum := "69390a6964b47253e0d81282bd4d6076a2f872a8eef883734f9e54556b3b0c0f", func := "obelus/obeluslaw01.CodepointAt", spec := "codepointAt", inPlace := ["internal/abi.NoEscape"], apart := false }
def CodepointAtSaid : Prop := codepointAtRow.holds Try.pinned (OpenSpec.ofChange codepointAtSpec)

/-- ITS FALSE NEIGHBOUR: 'it returns false'. Refute it at one input. -/
def codepointAtWrong : ChangeSpec := { name := "codepointAt", fn := fun _ => fun
  | [d1, d2] => { results := [.lit (.bool false)], args := [d1, d2] }
  | _ => none }
def CodepointAtWrongFalsely : Prop := codepointAtRow.holds Try.pinned (OpenSpec.ofChange codepointAtWrong)

/-- 'obeluslaw01.CodepointOrders': WHATEVER THE INPUT: true; the input reads as it did. -/
def codepointOrdersSpec : ChangeSpec := { name := "codepointOrders", fn := fun _ => fun
  | [d1, d2] => { results := [.lit (.bool true)], args := [d1, d2] }
  | _ => none }
def codepointOrdersRow : OpenClaim := { program := "ytkoklnnlhfjbjaa", sum := "69390a6964b47253e0d81282bd4d6076a2f872a8eef883734f9e54556b3b0c0f", func := "obelus/obeluslaw01.CodepointOrders", spec := "codepointOrders", inPlace := ["internal/abi.NoEscape"], apart := false }
def CodepointOrdersSaid : Prop := codepointOrdersRow.holds Try.pinned (OpenSpec.ofChange codepointOrdersSpec)

/-- ITS FALSE NEIGHBOUR: 'it returns false'. Refute it at one input. -/
def codepointOrdersWrong : ChangeSpec := { name := "codepointOrders", fn := fun _ => fun
  | [d1, d2] => { results := [.lit (.bool false)], args := [d1, d2] }
  | _ => none }
def CodepointOrdersWrongFalsely : Prop := codepointOrdersRow.holds Try.pinned (OpenSpec.ofChange codepointOrdersWrong)

/-- 'obeluslaw01.CodepointSlices': WHATEVER THE INPUT: true; the input reads as it did. -/
def codepointSlicesSpec : ChangeSpec := { name := "codepointSlices", fn := fun _ => fun
  | [d1, d2] => { results := [.lit (.bool true)], args := [d1, d2] }
  | _ => none }
def codepointSlicesRow : OpenClaim := { program := "ytkoklnnlhfjbjaa", sum := "69390a6964b47253e0d81282bd4d6076a2f872a8eef883734f9e54556b3b0c0f", func := "obelus/obeluslaw01.CodepointSlices", spec := "codepointSlices", inPlace := ["internal/abi.NoEscape"], apart := false }
def CodepointSlicesSaid : Prop := codepointSlicesRow.holds Try.pinned (OpenSpec.ofChange codepointSlicesSpec)

/-- ITS FALSE NEIGHBOUR: 'it returns false'. Refute it at one input. -/
def codepointSlicesWrong : ChangeSpec := { name := "codepointSlices", fn := fun _ => fun
  | [d1, d2] => { results := [.lit (.bool false)], args := [d1, d2] }
  | _ => none }
def CodepointSlicesWrongFalsely : Prop := codepointSlicesRow.holds Try.pinned (OpenSpec.ofChange codepointSlicesWrong)

/-- 'obeluslaw01.CodepointNames': WHATEVER THE INPUT: true; the input reads as it did. -/
def codepointNamesSpec : ChangeSpec := { name := "codepointNames", fn := fun _ => fun
  | [d] => { results := [.lit (.bool true)], args := [d] }
  | _ => none }
def codepointNamesRow : OpenClaim := { program := "ytkoklnnlhfjbjaa", sum := "69390a6964b47253e0d81282bd4d6076a2f872a8eef883734f9e54556b3b0c0f", func := "obelus/obeluslaw01.CodepointNames", spec := "codepointNames", inPlace := ["internal/abi.NoEscape"], apart := false }
def CodepointNamesSaid : Prop := codepointNamesRow.holds Try.pinned (OpenSpec.ofChange codepointNamesSpec)

/-- ITS FALSE NEIGHBOUR: 'it returns false'. Refute it at one input. -/
def codepointNamesWrong : ChangeSpec := { name := "codepointNames", fn := fun _ => fun
  | [d] => { results := [.lit (.bool false)], args := [d] }
  | _ => none }
def CodepointNamesWrongFalsely : Prop := codepointNamesRow.holds Try.pinned (OpenSpec.ofChange codepointNamesWrong)

/-- 'obeluslaw01.CodepointPoints': WHATEVER THE INPUT: true; the input reads as it did. -/
def codepointPointsSpec : ChangeSpec := { name := "codepointPoints", fn := fun _ => fun
  | [d] => { results := [.lit (.bool true)], args := [d] }
  | _ => none }
def codepointPointsRow : OpenClaim := { program := "ytkoklnnlhfjbjaa", sum := "69390a6964b47253e0d81282bd4d6076a2f872a8eef883734f9e54556b3b0c0f", func := "obelus/obeluslaw01.CodepointPoints", spec := "codepointPoints", inPlace := ["internal/abi.NoEscape"], apart := false }
def CodepointPointsSaid : Prop := codepointPointsRow.holds Try.pinned (OpenSpec.ofChange codepointPointsSpec)

/-- ITS FALSE NEIGHBOUR: 'it returns false'. Refute it at one input. -/
def codepointPointsWrong : ChangeSpec := { name := "codepointPoints", fn := fun _ => fun
  | [d] => { results := [.lit (.bool false)], args := [d] }
  | _ => none }
def CodepointPointsWrongFalsely : Prop := codepointPointsRow.holds Try.pinned (OpenSpec.ofChange codepointPointsWrong)

/-- 'obeluslaw01.CodepointMakes': WHATEVER THE INPUT: true; the input reads as it did. -/
def codepointMakesSpec : ChangeSpec := { name := "codepointMakes", fn := fun _ => fun
  | [d] => { results := [.lit (.bool true)], args := [d] }
  | _ => none }
def codepointMakesRow : OpenClaim := { program := "ytkoklnnlhfjbjaa", sum := "69390a6964b47253e0d81282bd4d6076a2f872a8eef883734f9e54556b3b0c0f", func := "obelus/obeluslaw01.CodepointMakes", spec := "codepointMakes", inPlace := ["internal/abi.NoEscape"], apart := false }
def CodepointMakesSaid : Prop := codepointMakesRow.holds Try.pinned (OpenSpec.ofChange codepointMakesSpec)

/-- ITS FALSE NEIGHBOUR: 'it returns false'. Refute it at one input. -/
def codepointMakesWrong : ChangeSpec := { name := "codepointMakes", fn := fun _ => fun
  | [d] => { results := [.lit (.bool false)], args := [d] }
  | _ => none }
def CodepointMakesWrongFalsely : Prop := codepointMakesRow.holds Try.pinned (OpenSpec.ofChange codepointMakesWrong)

/- THE SECOND FORM. 'bulk': how many values and letters a reading holds, each counted each time it is reached (what is shared counts as often as it is met; a slice's spare places count too). A statement '..UptoSaid' is the law's where the arguments, and the package variables that the reading takes, are together of bulk at most 1048576: NARROWER than '..Said'. Prove '..Said' where nothing that the law and all that it calls make is longer than what came in: it says more and counts as full. Else prove '..UptoSaid'. A law counts once. -/
mutual
def uptoBulk {H : Type} : DataW H → Nat
  | .lit (.string bytes) => bytes.length + 1
  | .lit _ => 1
  | .nil => 1
  | .ptr d => uptoBulk d + 1
  | .slice elems spare => uptoBulkAll elems + uptoBulkAll spare + 1
  | .agg parts => uptoBulkAll parts + 1
  | .iface _ d => uptoBulk d + 1
  | .map entries => uptoBulkEntries entries + 1
  | .held _ => 1
def uptoBulkAll {H : Type} : List (DataW H) → Nat
  | [] => 0
  | d :: r => uptoBulk d + uptoBulkAll r
def uptoBulkEntries {H : Type} : List (Lit × DataW H) → Nat
  | [] => 0
  | x :: r => uptoBulkEntry x + uptoBulkEntries r
def uptoBulkEntry {H : Type} : Lit × DataW H → Nat
  | (.string bytes, d) => bytes.length + uptoBulk d + 1
  | (_, d) => uptoBulk d + 1
 end
def uptoSmall : (H : Type) → List (DataW H) → Bool := fun _ ds => decide (uptoBulkAll ds ≤ 1048576)
def OpenSpec.upto (s : _root_.Go.ChangeSpec) : _root_.Go.OpenSpec := { _root_.Go.OpenSpec.ofChange s with cond := some uptoSmall }

/-- 'obeluslaw01.CodepointRepairs', WHERE WHAT IT READS IS OF BULK AT MOST 1048576: true; the input reads as it did. -/
def codepointRepairsUptoRow : OpenClaim := { program := "ytkoklnnlhfjbjaa", sum := "69390a6964b47253e0d81282bd4d6076a2f872a8eef883734f9e54556b3b0c0f", func := "obelus/obeluslaw01.CodepointRepairs", spec := "codepointRepairs", inPlace := ["internal/abi.NoEscape"], apart := false, narrowed := true }
def CodepointRepairsUptoSaid : Prop := codepointRepairsUptoRow.holds Try.pinned (OpenSpec.upto codepointRepairsSpec)

/-- 'obeluslaw01.CodepointValid', WHERE WHAT IT READS IS OF BULK AT MOST 1048576: true; the input reads as it did. -/
def codepointValidUptoRow : OpenClaim := { program := "ytkoklnnlhfjbjaa", sum := "69390a6964b47253e0d81282bd4d6076a2f872a8eef883734f9e54556b3b0c0f", func := "obelus/obeluslaw01.CodepointValid", spec := "codepointValid", inPlace := ["internal/abi.NoEscape"], apart := false, narrowed := true }
def CodepointValidUptoSaid : Prop := codepointValidUptoRow.holds Try.pinned (OpenSpec.upto codepointValidSpec)

/-- 'obeluslaw01.CodepointOffsets', WHERE WHAT IT READS IS OF BULK AT MOST 1048576: true; the input reads as it did. -/
def codepointOffsetsUptoRow : OpenClaim := { program := "ytkoklnnlhfjbjaa", sum := "69390a6964b47253e0d81282bd4d6076a2f872a8eef883734f9e54556b3b0c0f", func := "obelus/obeluslaw01.CodepointOffsets", spec := "codepointOffsets", inPlace := ["internal/abi.NoEscape"], apart := false, narrowed := true }
def CodepointOffsetsUptoSaid : Prop := codepointOffsetsUptoRow.holds Try.pinned (OpenSpec.upto codepointOffsetsSpec)

/-- 'obeluslaw01.CodepointAt', WHERE WHAT IT READS IS OF BULK AT MOST 1048576: true; the input reads as it did. -/
def codepointAtUptoRow : OpenClaim := { program := "ytkoklnnlhfjbjaa", sum := "69390a6964b47253e0d81282bd4d6076a2f872a8eef883734f9e54556b3b0c0f", func := "obelus/obeluslaw01.CodepointAt", spec := "codepointAt", inPlace := ["internal/abi.NoEscape"], apart := false, narrowed := true }
def CodepointAtUptoSaid : Prop := codepointAtUptoRow.holds Try.pinned (OpenSpec.upto codepointAtSpec)

/-- 'obeluslaw01.CodepointOrders', WHERE WHAT IT READS IS OF BULK AT MOST 1048576: true; the input reads as it did. -/
def codepointOrdersUptoRow : OpenClaim := { program := "ytkoklnnlhfjbjaa", sum := "69390a6964b47253e0d81282bd4d6076a2f872a8eef883734f9e54556b3b0c0f", func := "obelus/obeluslaw01.CodepointOrders", spec := "codepointOrders", inPlace := ["internal/abi.NoEscape"], apart := false, narrowed := true }
def CodepointOrdersUptoSaid : Prop := codepointOrdersUptoRow.holds Try.pinned (OpenSpec.upto codepointOrdersSpec)

/-- 'obeluslaw01.CodepointSlices', WHERE WHAT IT READS IS OF BULK AT MOST 1048576: true; the input reads as it did. -/
def codepointSlicesUptoRow : OpenClaim := { program := "ytkoklnnlhfjbjaa", sum := "69390a6964b47253e0d81282bd4d6076a2f872a8eef883734f9e54556b3b0c0f", func := "obelus/obeluslaw01.CodepointSlices", spec := "codepointSlices", inPlace := ["internal/abi.NoEscape"], apart := false, narrowed := true }
def CodepointSlicesUptoSaid : Prop := codepointSlicesUptoRow.holds Try.pinned (OpenSpec.upto codepointSlicesSpec)

/-- 'obeluslaw01.CodepointNames', WHERE WHAT IT READS IS OF BULK AT MOST 1048576: true; the input reads as it did. -/
def codepointNamesUptoRow : OpenClaim := { program := "ytkoklnnlhfjbjaa", sum := "69390a6964b47253e0d81282bd4d6076a2f872a8eef883734f9e54556b3b0c0f", func := "obelus/obeluslaw01.CodepointNames", spec := "codepointNames", inPlace := ["internal/abi.NoEscape"], apart := false, narrowed := true }
def CodepointNamesUptoSaid : Prop := codepointNamesUptoRow.holds Try.pinned (OpenSpec.upto codepointNamesSpec)

/-- 'obeluslaw01.CodepointPoints', WHERE WHAT IT READS IS OF BULK AT MOST 1048576: true; the input reads as it did. -/
def codepointPointsUptoRow : OpenClaim := { program := "ytkoklnnlhfjbjaa", sum := "69390a6964b47253e0d81282bd4d6076a2f872a8eef883734f9e54556b3b0c0f", func := "obelus/obeluslaw01.CodepointPoints", spec := "codepointPoints", inPlace := ["internal/abi.NoEscape"], apart := false, narrowed := true }
def CodepointPointsUptoSaid : Prop := codepointPointsUptoRow.holds Try.pinned (OpenSpec.upto codepointPointsSpec)

/-- 'obeluslaw01.CodepointMakes', WHERE WHAT IT READS IS OF BULK AT MOST 1048576: true; the input reads as it did. -/
def codepointMakesUptoRow : OpenClaim := { program := "ytkoklnnlhfjbjaa", sum := "69390a6964b47253e0d81282bd4d6076a2f872a8eef883734f9e54556b3b0c0f", func := "obelus/obeluslaw01.CodepointMakes", spec := "codepointMakes", inPlace := ["internal/abi.NoEscape"], apart := false, narrowed := true }
def CodepointMakesUptoSaid : Prop := codepointMakesUptoRow.holds Try.pinned (OpenSpec.upto codepointMakesSpec)

end Rows
end Go.Proofs.Ytkoklnnlhfjbjaa
