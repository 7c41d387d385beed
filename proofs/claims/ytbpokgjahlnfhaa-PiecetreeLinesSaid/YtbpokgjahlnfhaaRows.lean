/-
  No cell of these rows narrows 'for every input' (looked for: loops, veiled, ifaces, maps, wideKeys, modest, calm, conditions, laid).
  DERIVED. THE GIVEN ROWS OF THIS SEAT. 10 by the template 'for every input the law returns true; each argument reads behind the call as it read before'; 0 by the template 'total and deterministic' (their statements: YtbpokgjahlnfhaaTotals.lean).
  GIVEN WITH THE SEED: the statements are not yours to turn. If you find one false, say at which input.
  Laid BY PROGRAM, IN A SANDBOX (cutbox-rows.mjs): the forced cells as the released guide's own fill.sh prints them over the translation ad1df50ad5d75f12… (all of the seat's roots in one cut). By AI agents, Wed Nov 11 2026. No macro, syntax, notation, axiom, sorry.
-/
import Derived.Test.YtbpokgjahlnfhaaChecked
import GoSem.Claim
import GoSem.ClaimJoined
import GoSem.ClaimMapViews
import Derived.JoinedTies
import Derived.KernelRfl
namespace Go.Proofs.Ytbpokgjahlnfhaa
/- THE CELL 'sum', in the pinned program and in every row, IS THE sha256 OF THE DUMP (.gsa) THAT YtbpokgjahlnfhaaProg.lean LOADS. Nothing in Lean hashes anything: it is a label: what it is worth is what the hold of that sum in a sandbox is worth. -/
noncomputable def Try.pinned : Pinned := { name := "ytbpokgjahlnfhaa", sum := "ad1df50ad5d75f129058676f5a6a76315f91dc53795acecc269ad40d0e1498c2", checked := Try.checked }
namespace Rows
def none {H : Type} : Left H := { results := [], args := [] }

/-- 'obeluslaw04.PiecetreeLimits': WHATEVER THE INPUT: true; the input reads as it did. -/
def piecetreeLimitsSpec : ChangeSpec := { name := "piecetreeLimits", fn := fun _ => fun
  | [d1, d2] => { results := [.lit (.bool true)], args := [d1, d2] }
  | _ => none }
def piecetreeLimitsRow : OpenClaim := { program := "ytbpokgjahlnfhaa", sum := "ad1df50ad5d75f129058676f5a6a76315f91dc53795acecc269ad40d0e1498c2", func := "obelus/obeluslaw04.PiecetreeLimits", spec := "piecetreeLimits", inPlace := ["internal/bytealg.CountString", "internal/bytealg.IndexByteString", "internal/bytealg.IndexString", "internal/abi.NoEscape", "internal/bytealg.MakeNoZero"], unfollowed := true, recurses := true, named := ["internal/bytealg.MaxLen"], apart := false }
def PiecetreeLimitsSaid : Prop := piecetreeLimitsRow.holds Try.pinned (OpenSpec.ofChange piecetreeLimitsSpec)

/-- ITS FALSE NEIGHBOUR: 'it returns false'. Refute it at one input. -/
def piecetreeLimitsWrong : ChangeSpec := { name := "piecetreeLimits", fn := fun _ => fun
  | [d1, d2] => { results := [.lit (.bool false)], args := [d1, d2] }
  | _ => none }
def PiecetreeLimitsWrongFalsely : Prop := piecetreeLimitsRow.holds Try.pinned (OpenSpec.ofChange piecetreeLimitsWrong)

/-- 'obeluslaw04.PiecetreePlays': WHATEVER THE INPUT: true; the input reads as it did. -/
def piecetreePlaysSpec : ChangeSpec := { name := "piecetreePlays", fn := fun _ => fun
  | [d1, d2] => { results := [.lit (.bool true)], args := [d1, d2] }
  | _ => none }
def piecetreePlaysRow : OpenClaim := { program := "ytbpokgjahlnfhaa", sum := "ad1df50ad5d75f129058676f5a6a76315f91dc53795acecc269ad40d0e1498c2", func := "obelus/obeluslaw04.PiecetreePlays", spec := "piecetreePlays", inPlace := ["internal/bytealg.CountString", "internal/bytealg.IndexByteString", "internal/bytealg.IndexString", "internal/abi.NoEscape", "internal/bytealg.MakeNoZero"], unfollowed := true, recurses := true, named := ["internal/bytealg.MaxLen"], apart := false }
def PiecetreePlaysSaid : Prop := piecetreePlaysRow.holds Try.pinned (OpenSpec.ofChange piecetreePlaysSpec)

/-- ITS FALSE NEIGHBOUR: 'it returns false'. Refute it at one input. -/
def piecetreePlaysWrong : ChangeSpec := { name := "piecetreePlays", fn := fun _ => fun
  | [d1, d2] => { results := [.lit (.bool false)], args := [d1, d2] }
  | _ => none }
def PiecetreePlaysWrongFalsely : Prop := piecetreePlaysRow.holds Try.pinned (OpenSpec.ofChange piecetreePlaysWrong)

/-- 'obeluslaw04.PiecetreeDeep': WHATEVER THE INPUT: true; the input reads as it did. -/
def piecetreeDeepSpec : ChangeSpec := { name := "piecetreeDeep", fn := fun _ => fun
  | [d1, d2] => { results := [.lit (.bool true)], args := [d1, d2] }
  | _ => none }
def piecetreeDeepRow : OpenClaim := { program := "ytbpokgjahlnfhaa", sum := "ad1df50ad5d75f129058676f5a6a76315f91dc53795acecc269ad40d0e1498c2", func := "obelus/obeluslaw04.PiecetreeDeep", spec := "piecetreeDeep", inPlace := ["internal/bytealg.CountString", "internal/bytealg.IndexByteString", "internal/bytealg.IndexString", "internal/abi.NoEscape", "internal/bytealg.MakeNoZero"], unfollowed := true, recurses := true, named := ["internal/bytealg.MaxLen"], apart := false }
def PiecetreeDeepSaid : Prop := piecetreeDeepRow.holds Try.pinned (OpenSpec.ofChange piecetreeDeepSpec)

/-- ITS FALSE NEIGHBOUR: 'it returns false'. Refute it at one input. -/
def piecetreeDeepWrong : ChangeSpec := { name := "piecetreeDeep", fn := fun _ => fun
  | [d1, d2] => { results := [.lit (.bool false)], args := [d1, d2] }
  | _ => none }
def PiecetreeDeepWrongFalsely : Prop := piecetreeDeepRow.holds Try.pinned (OpenSpec.ofChange piecetreeDeepWrong)

/-- 'obeluslaw04.PiecetreeBalances': WHATEVER THE INPUT: true; the input reads as it did. -/
def piecetreeBalancesSpec : ChangeSpec := { name := "piecetreeBalances", fn := fun _ => fun
  | [d1, d2] => { results := [.lit (.bool true)], args := [d1, d2] }
  | _ => none }
def piecetreeBalancesRow : OpenClaim := { program := "ytbpokgjahlnfhaa", sum := "ad1df50ad5d75f129058676f5a6a76315f91dc53795acecc269ad40d0e1498c2", func := "obelus/obeluslaw04.PiecetreeBalances", spec := "piecetreeBalances", inPlace := ["internal/bytealg.CountString", "internal/bytealg.IndexByteString", "internal/bytealg.IndexString", "internal/abi.NoEscape", "internal/bytealg.MakeNoZero"], unfollowed := true, recurses := true, named := ["internal/bytealg.MaxLen"], apart := false }
def PiecetreeBalancesSaid : Prop := piecetreeBalancesRow.holds Try.pinned (OpenSpec.ofChange piecetreeBalancesSpec)

/-- ITS FALSE NEIGHBOUR: 'it returns false'. Refute it at one input. -/
def piecetreeBalancesWrong : ChangeSpec := { name := "piecetreeBalances", fn := fun _ => fun
  | [d1, d2] => { results := [.lit (.bool false)], args := [d1, d2] }
  | _ => none }
def PiecetreeBalancesWrongFalsely : Prop := piecetreeBalancesRow.holds Try.pinned (OpenSpec.ofChange piecetreeBalancesWrong)

/-- 'obeluslaw04.PiecetreeSnapshots': WHATEVER THE INPUT: true; the input reads as it did. -/
def piecetreeSnapshotsSpec : ChangeSpec := { name := "piecetreeSnapshots", fn := fun _ => fun
  | [d1, d2, d3] => { results := [.lit (.bool true)], args := [d1, d2, d3] }
  | _ => none }
def piecetreeSnapshotsRow : OpenClaim := { program := "ytbpokgjahlnfhaa", sum := "ad1df50ad5d75f129058676f5a6a76315f91dc53795acecc269ad40d0e1498c2", func := "obelus/obeluslaw04.PiecetreeSnapshots", spec := "piecetreeSnapshots", inPlace := ["internal/bytealg.CountString", "internal/bytealg.IndexByteString", "internal/bytealg.IndexString", "internal/abi.NoEscape", "internal/bytealg.MakeNoZero"], unfollowed := true, recurses := true, named := ["internal/bytealg.MaxLen"], apart := false }
def PiecetreeSnapshotsSaid : Prop := piecetreeSnapshotsRow.holds Try.pinned (OpenSpec.ofChange piecetreeSnapshotsSpec)

/-- ITS FALSE NEIGHBOUR: 'it returns false'. Refute it at one input. -/
def piecetreeSnapshotsWrong : ChangeSpec := { name := "piecetreeSnapshots", fn := fun _ => fun
  | [d1, d2, d3] => { results := [.lit (.bool false)], args := [d1, d2, d3] }
  | _ => none }
def PiecetreeSnapshotsWrongFalsely : Prop := piecetreeSnapshotsRow.holds Try.pinned (OpenSpec.ofChange piecetreeSnapshotsWrong)

/-- 'obeluslaw04.PiecetreeEquals': WHATEVER THE INPUT: true; the input reads as it did. -/
def piecetreeEqualsSpec : ChangeSpec := { name := "piecetreeEquals", fn := fun _ => fun
  | [d1, d2, d3] => { results := [.lit (.bool true)], args := [d1, d2, d3] }
  | _ => none }
def piecetreeEqualsRow : OpenClaim := { program := "ytbpokgjahlnfhaa", sum := "ad1df50ad5d75f129058676f5a6a76315f91dc53795acecc269ad40d0e1498c2", func := "obelus/obeluslaw04.PiecetreeEquals", spec := "piecetreeEquals", inPlace := ["internal/bytealg.CountString", "internal/bytealg.IndexByteString", "internal/bytealg.IndexString", "internal/abi.NoEscape", "internal/bytealg.MakeNoZero"], unfollowed := true, recurses := true, named := ["internal/bytealg.MaxLen"], apart := false }
def PiecetreeEqualsSaid : Prop := piecetreeEqualsRow.holds Try.pinned (OpenSpec.ofChange piecetreeEqualsSpec)

/-- ITS FALSE NEIGHBOUR: 'it returns false'. Refute it at one input. -/
def piecetreeEqualsWrong : ChangeSpec := { name := "piecetreeEquals", fn := fun _ => fun
  | [d1, d2, d3] => { results := [.lit (.bool false)], args := [d1, d2, d3] }
  | _ => none }
def PiecetreeEqualsWrongFalsely : Prop := piecetreeEqualsRow.holds Try.pinned (OpenSpec.ofChange piecetreeEqualsWrong)

/-- 'obeluslaw04.PiecetreeSlices': WHATEVER THE INPUT: true; the input reads as it did. -/
def piecetreeSlicesSpec : ChangeSpec := { name := "piecetreeSlices", fn := fun _ => fun
  | [d1, d2, d3] => { results := [.lit (.bool true)], args := [d1, d2, d3] }
  | _ => none }
def piecetreeSlicesRow : OpenClaim := { program := "ytbpokgjahlnfhaa", sum := "ad1df50ad5d75f129058676f5a6a76315f91dc53795acecc269ad40d0e1498c2", func := "obelus/obeluslaw04.PiecetreeSlices", spec := "piecetreeSlices", inPlace := ["internal/bytealg.CountString", "internal/bytealg.IndexByteString", "internal/bytealg.IndexString", "internal/abi.NoEscape", "internal/bytealg.MakeNoZero"], unfollowed := true, recurses := true, named := ["internal/bytealg.MaxLen"], apart := false }
def PiecetreeSlicesSaid : Prop := piecetreeSlicesRow.holds Try.pinned (OpenSpec.ofChange piecetreeSlicesSpec)

/-- ITS FALSE NEIGHBOUR: 'it returns false'. Refute it at one input. -/
def piecetreeSlicesWrong : ChangeSpec := { name := "piecetreeSlices", fn := fun _ => fun
  | [d1, d2, d3] => { results := [.lit (.bool false)], args := [d1, d2, d3] }
  | _ => none }
def PiecetreeSlicesWrongFalsely : Prop := piecetreeSlicesRow.holds Try.pinned (OpenSpec.ofChange piecetreeSlicesWrong)

/-- 'obeluslaw04.PiecetreeRestores': WHATEVER THE INPUT: true; the input reads as it did. -/
def piecetreeRestoresSpec : ChangeSpec := { name := "piecetreeRestores", fn := fun _ => fun
  | [d1, d2, d3] => { results := [.lit (.bool true)], args := [d1, d2, d3] }
  | _ => none }
def piecetreeRestoresRow : OpenClaim := { program := "ytbpokgjahlnfhaa", sum := "ad1df50ad5d75f129058676f5a6a76315f91dc53795acecc269ad40d0e1498c2", func := "obelus/obeluslaw04.PiecetreeRestores", spec := "piecetreeRestores", inPlace := ["internal/bytealg.CountString", "internal/bytealg.IndexByteString", "internal/bytealg.IndexString", "internal/abi.NoEscape", "internal/bytealg.MakeNoZero"], unfollowed := true, recurses := true, named := ["internal/bytealg.MaxLen"], apart := false }
def PiecetreeRestoresSaid : Prop := piecetreeRestoresRow.holds Try.pinned (OpenSpec.ofChange piecetreeRestoresSpec)

/-- ITS FALSE NEIGHBOUR: 'it returns false'. Refute it at one input. -/
def piecetreeRestoresWrong : ChangeSpec := { name := "piecetreeRestores", fn := fun _ => fun
  | [d1, d2, d3] => { results := [.lit (.bool false)], args := [d1, d2, d3] }
  | _ => none }
def PiecetreeRestoresWrongFalsely : Prop := piecetreeRestoresRow.holds Try.pinned (OpenSpec.ofChange piecetreeRestoresWrong)

/-- 'obeluslaw04.PiecetreeLines': WHATEVER THE INPUT: true; the input reads as it did. -/
def piecetreeLinesSpec : ChangeSpec := { name := "piecetreeLines", fn := fun _ => fun
  | [d1, d2, d3] => { results := [.lit (.bool true)], args := [d1, d2, d3] }
  | _ => none }
def piecetreeLinesRow : OpenClaim := { program := "ytbpokgjahlnfhaa", sum := "ad1df50ad5d75f129058676f5a6a76315f91dc53795acecc269ad40d0e1498c2", func := "obelus/obeluslaw04.PiecetreeLines", spec := "piecetreeLines", inPlace := ["internal/bytealg.CountString", "internal/bytealg.IndexByteString", "internal/bytealg.IndexString", "internal/abi.NoEscape", "internal/bytealg.MakeNoZero"], unfollowed := true, recurses := true, named := ["internal/bytealg.MaxLen"], apart := false }
def PiecetreeLinesSaid : Prop := piecetreeLinesRow.holds Try.pinned (OpenSpec.ofChange piecetreeLinesSpec)

/-- ITS FALSE NEIGHBOUR: 'it returns false'. Refute it at one input. -/
def piecetreeLinesWrong : ChangeSpec := { name := "piecetreeLines", fn := fun _ => fun
  | [d1, d2, d3] => { results := [.lit (.bool false)], args := [d1, d2, d3] }
  | _ => none }
def PiecetreeLinesWrongFalsely : Prop := piecetreeLinesRow.holds Try.pinned (OpenSpec.ofChange piecetreeLinesWrong)

/-- 'obeluslaw04.PiecetreeNil': WHATEVER THE INPUT: true; the input reads as it did. -/
def piecetreeNilSpec : ChangeSpec := { name := "piecetreeNil", fn := fun _ => fun
  | [d1, d2] => { results := [.lit (.bool true)], args := [d1, d2] }
  | _ => none }
def piecetreeNilRow : OpenClaim := { program := "ytbpokgjahlnfhaa", sum := "ad1df50ad5d75f129058676f5a6a76315f91dc53795acecc269ad40d0e1498c2", func := "obelus/obeluslaw04.PiecetreeNil", spec := "piecetreeNil", inPlace := ["internal/abi.NoEscape", "internal/bytealg.MakeNoZero", "internal/bytealg.IndexByteString", "internal/bytealg.CountString", "internal/bytealg.IndexString"], unfollowed := true, recurses := true, named := ["internal/bytealg.MaxLen"], apart := false }
def PiecetreeNilSaid : Prop := piecetreeNilRow.holds Try.pinned (OpenSpec.ofChange piecetreeNilSpec)

/-- ITS FALSE NEIGHBOUR: 'it returns false'. Refute it at one input. -/
def piecetreeNilWrong : ChangeSpec := { name := "piecetreeNil", fn := fun _ => fun
  | [d1, d2] => { results := [.lit (.bool false)], args := [d1, d2] }
  | _ => none }
def PiecetreeNilWrongFalsely : Prop := piecetreeNilRow.holds Try.pinned (OpenSpec.ofChange piecetreeNilWrong)

/- THE SECOND FORM. 'bulk': how many values and letters a reading holds, each counted each time it is reached (what is shared counts as often as it is met; a slice's spare places count too). A statement '..UptoSaid' is the law's where the arguments, and the package variables that the reading takes, are together of bulk at most 1048576: NARROWER than '..Said'. Prove '..Said' where nothing that the law and all that it calls make is longer than what came in: it says more and counts as full. Else prove '..UptoSaid'. A law counts once. -/
mutual
def uptoBulk {H : Type} : DataW H → Nat
  | .lit (.string bytes) => bytes.length + 1
  | .lit _ => 1
  | .nil => 1
  | .ptr d => uptoBulk d + 1
  | .slice elems spare => uptoBulkAll elems + uptoBulkAll spare + 1
  | .agg parts => uptoBulkAll parts + 1
  | .iface _ d => uptoBulk d + 1
  | .map entries => uptoBulkEntries entries + 1
  | .held _ => 1
def uptoBulkAll {H : Type} : List (DataW H) → Nat
  | [] => 0
  | d :: r => uptoBulk d + uptoBulkAll r
def uptoBulkEntries {H : Type} : List (Lit × DataW H) → Nat
  | [] => 0
  | x :: r => uptoBulkEntry x + uptoBulkEntries r
def uptoBulkEntry {H : Type} : Lit × DataW H → Nat
  | (.string bytes, d) => bytes.length + uptoBulk d + 1
  | (_, d) => uptoBulk d + 1
 end
def uptoSmall : (H : Type) → List (DataW H) → Bool := fun _ ds => decide (uptoBulkAll ds ≤ 1048576)
def OpenSpec.upto (s : _root_.Go.ChangeSpec) : _root_.Go.OpenSpec := { _root_.Go.OpenSpec.ofChange s with cond := some uptoSmall }

/-- 'obeluslaw04.PiecetreeLimits', WHERE WHAT IT READS IS OF BULK AT MOST 1048576: true; the input reads as it did. -/
def piecetreeLimitsUptoRow : OpenClaim := { program := "ytbpokgjahlnfhaa", sum := "ad1df50ad5d75f129058676f5a6a76315f91dc53795acecc269ad40d0e1498c2", func := "obelus/obeluslaw04.PiecetreeLimits", spec := "piecetreeLimits", inPlace := ["internal/bytealg.CountString", "internal/bytealg.IndexByteString", "internal/bytealg.IndexString", "internal/abi.NoEscape", "internal/bytealg.MakeNoZero"], unfollowed := true, recurses := true, named := ["internal/bytealg.MaxLen"], apart := false, narrowed := true }
def PiecetreeLimitsUptoSaid : Prop := piecetreeLimitsUptoRow.holds Try.pinned (OpenSpec.upto piecetreeLimitsSpec)

/-- 'obeluslaw04.PiecetreePlays', WHERE WHAT IT READS IS OF BULK AT MOST 1048576: true; the input reads as it did. -/
def piecetreePlaysUptoRow : OpenClaim := { program := "ytbpokgjahlnfhaa", sum := "ad1df50ad5d75f129058676f5a6a76315f91dc53795acecc269ad40d0e1498c2", func := "obelus/obeluslaw04.PiecetreePlays", spec := "piecetreePlays", inPlace := ["internal/bytealg.CountString", "internal/bytealg.IndexByteString", "internal/bytealg.IndexString", "internal/abi.NoEscape", "internal/bytealg.MakeNoZero"], unfollowed := true, recurses := true, named := ["internal/bytealg.MaxLen"], apart := false, narrowed := true }
def PiecetreePlaysUptoSaid : Prop := piecetreePlaysUptoRow.holds Try.pinned (OpenSpec.upto piecetreePlaysSpec)

/-- 'obeluslaw04.PiecetreeDeep', WHERE WHAT IT READS IS OF BULK AT MOST 1048576: true; the input reads as it did. -/
def piecetreeDeepUptoRow : OpenClaim := { program := "ytbpokgjahlnfhaa", sum := "ad1df50ad5d75f129058676f5a6a76315f91dc53795acecc269ad40d0e1498c2", func := "obelus/obeluslaw04.PiecetreeDeep", spec := "piecetreeDeep", inPlace := ["internal/bytealg.CountString", "internal/bytealg.IndexByteString", "internal/bytealg.IndexString", "internal/abi.NoEscape", "internal/bytealg.MakeNoZero"], unfollowed := true, recurses := true, named := ["internal/bytealg.MaxLen"], apart := false, narrowed := true }
def PiecetreeDeepUptoSaid : Prop := piecetreeDeepUptoRow.holds Try.pinned (OpenSpec.upto piecetreeDeepSpec)

/-- 'obeluslaw04.PiecetreeBalances', WHERE WHAT IT READS IS OF BULK AT MOST 1048576: true; the input reads as it did. -/
def piecetreeBalancesUptoRow : OpenClaim := { program := "ytbpokgjahlnfhaa", sum := "ad1df50ad5d75f129058676f5a6a76315f91dc53795acecc269ad40d0e1498c2", func := "obelus/obeluslaw04.PiecetreeBalances", spec := "piecetreeBalances", inPlace := ["internal/bytealg.CountString", "internal/bytealg.IndexByteString", "internal/bytealg.IndexString", "internal/abi.NoEscape", "internal/bytealg.MakeNoZero"], unfollowed := true, recurses := true, named := ["internal/bytealg.MaxLen"], apart := false, narrowed := true }
def PiecetreeBalancesUptoSaid : Prop := piecetreeBalancesUptoRow.holds Try.pinned (OpenSpec.upto piecetreeBalancesSpec)

/-- 'obeluslaw04.PiecetreeSnapshots', WHERE WHAT IT READS IS OF BULK AT MOST 1048576: true; the input reads as it did. -/
def piecetreeSnapshotsUptoRow : OpenClaim := { program := "ytbpokgjahlnfhaa", sum := "ad1df50ad5d75f129058676f5a6a76315f91dc53795acecc269ad40d0e1498c2", func := "obelus/obeluslaw04.PiecetreeSnapshots", spec := "piecetreeSnapshots", inPlace := ["internal/bytealg.CountString", "internal/bytealg.IndexByteString", "internal/bytealg.IndexString", "internal/abi.NoEscape", "internal/bytealg.MakeNoZero"], unfollowed := true, recurses := true, named := ["internal/bytealg.MaxLen"], apart := false, narrowed := true }
def PiecetreeSnapshotsUptoSaid : Prop := piecetreeSnapshotsUptoRow.holds Try.pinned (OpenSpec.upto piecetreeSnapshotsSpec)

/-- 'obeluslaw04.PiecetreeEquals', WHERE WHAT IT READS IS OF BULK AT MOST 1048576: true; the input reads as it did. -/
def piecetreeEqualsUptoRow : OpenClaim := { program := "ytbpokgjahlnfhaa", sum := "ad1df50ad5d75f129058676f5a6a76315f91dc53795acecc269ad40d0e1498c2", func := "obelus/obeluslaw04.PiecetreeEquals", spec := "piecetreeEquals", inPlace := ["internal/bytealg.CountString", "internal/bytealg.IndexByteString", "internal/bytealg.IndexString", "internal/abi.NoEscape", "internal/bytealg.MakeNoZero"], unfollowed := true, recurses := true, named := ["internal/bytealg.MaxLen"], apart := false, narrowed := true }
def PiecetreeEqualsUptoSaid : Prop := piecetreeEqualsUptoRow.holds Try.pinned (OpenSpec.upto piecetreeEqualsSpec)

/-- 'obeluslaw04.PiecetreeSlices', WHERE WHAT IT READS IS OF BULK AT MOST 1048576: true; the input reads as it did. -/
def piecetreeSlicesUptoRow : OpenClaim := { program := "ytbpokgjahlnfhaa", sum := "ad1df50ad5d75f129058676f5a6a76315f91dc53795acecc269ad40d0e1498c2", func := "obelus/obeluslaw04.PiecetreeSlices", spec := "piecetreeSlices", inPlace := ["internal/bytealg.CountString", "internal/bytealg.IndexByteString", "internal/bytealg.IndexString", "internal/abi.NoEscape", "internal/bytealg.MakeNoZero"], unfollowed := true, recurses := true, named := ["internal/bytealg.MaxLen"], apart := false, narrowed := true }
def PiecetreeSlicesUptoSaid : Prop := piecetreeSlicesUptoRow.holds Try.pinned (OpenSpec.upto piecetreeSlicesSpec)

/-- 'obeluslaw04.PiecetreeRestores', WHERE WHAT IT READS IS OF BULK AT MOST 1048576: true; the input reads as it did. -/
def piecetreeRestoresUptoRow : OpenClaim := { program := "ytbpokgjahlnfhaa", sum := "ad1df50ad5d75f129058676f5a6a76315f91dc53795acecc269ad40d0e1498c2", func := "obelus/obeluslaw04.PiecetreeRestores", spec := "piecetreeRestores", inPlace := ["internal/bytealg.CountString", "internal/bytealg.IndexByteString", "internal/bytealg.IndexString", "internal/abi.NoEscape", "internal/bytealg.MakeNoZero"], unfollowed := true, recurses := true, named := ["internal/bytealg.MaxLen"], apart := false, narrowed := true }
def PiecetreeRestoresUptoSaid : Prop := piecetreeRestoresUptoRow.holds Try.pinned (OpenSpec.upto piecetreeRestoresSpec)

/-- 'obeluslaw04.PiecetreeLines', WHERE WHAT IT READS IS OF BULK AT MOST 1048576: true; the input reads as it did. -/
def piecetreeLinesUptoRow : OpenClaim := { program := "ytbpokgjahlnfhaa", sum := "ad1df50ad5d75f129058676f5a6a76315f91dc53795acecc269ad40d0e1498c2", func := "obelus/obeluslaw04.PiecetreeLines", spec := "piecetreeLines", inPlace := ["internal/bytealg.CountString", "internal/bytealg.IndexByteString", "internal/bytealg.IndexString", "internal/abi.NoEscape", "internal/bytealg.MakeNoZero"], unfollowed := true, recurses := true, named := ["internal/bytealg.MaxLen"], apart := false, narrowed := true }
def PiecetreeLinesUptoSaid : Prop := piecetreeLinesUptoRow.holds Try.pinned (OpenSpec.upto piecetreeLinesSpec)

/-- 'obeluslaw04.PiecetreeNil', WHERE WHAT IT READS IS OF BULK AT MOST 1048576: true; the input reads as it did. -/
def piecetreeNilUptoRow : OpenClaim := { program := "ytbpokgjahlnfhaa", sum := "ad1df50ad5d75f129058676f5a6a76315f91dc53795acecc269ad40d0e1498c2", func := "obelus/obeluslaw04.PiecetreeNil", spec := "piecetreeNil", inPlace := ["internal/abi.NoEscape", "internal/bytealg.MakeNoZero", "internal/bytealg.IndexByteString", "internal/bytealg.CountString", "internal/bytealg.IndexString"], unfollowed := true, recurses := true, named := ["internal/bytealg.MaxLen"], apart := false, narrowed := true }
def PiecetreeNilUptoSaid : Prop := piecetreeNilUptoRow.holds Try.pinned (OpenSpec.upto piecetreeNilSpec)

end Rows
end Go.Proofs.Ytbpokgjahlnfhaa
