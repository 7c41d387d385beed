/-
  No cell of these rows narrows 'for every input' (looked for: loops, veiled, ifaces, maps, wideKeys, modest, calm, conditions, laid).
  DERIVED. THE GIVEN ROWS OF THIS SEAT. 8 by the template 'for every input the law returns true; each argument reads behind the call as it read before'; 0 by the template 'total and deterministic' (their statements: YtfhcecfddejcdaaTotals.lean).
  GIVEN WITH THE SEED: the statements are not yours to turn. If you find one false, say at which input.
  Laid BY PROGRAM, IN A SANDBOX (cutbox-rows.mjs): the forced cells as the released guide's own fill.sh prints them over the translation 4e535cc508e10956… (all of the seat's roots in one cut). By AI agents, Wed Nov 11 2026. No macro, syntax, notation, axiom, sorry.
-/
import Derived.Test.YtfhcecfddejcdaaChecked
import GoSem.Claim
import GoSem.ClaimJoined
import GoSem.ClaimMapViews
import Derived.JoinedTies
import Derived.KernelRfl
namespace Go.Proofs.Ytfhcecfddejcdaa
/- THE CELL 'sum', in the pinned program and in every row, IS THE sha256 OF THE DUMP (.gsa) THAT YtfhcecfddejcdaaProg.lean LOADS. Nothing in Lean hashes anything: it is a label: what it is worth is what the hold of that sum in a sandbox is worth. -/
noncomputable def Try.pinned : Pinned := { name := "ytfhcecfddejcdaa", sum := "4e535cc508e10956350eacfd977468a3c5994fd40a8262b54534d1c9097eaba0", checked := Try.checked }
namespace Rows
def none {H : Type} : Left H := { results := [], args := [] }

/-- 'obeluslaw53.VolumeSurvives': WHATEVER THE INPUT: true; the input reads as it did. -/
def volumeSurvivesSpec : ChangeSpec := { name := "volumeSurvives", fn := fun _ => fun
  | [d1, d2, d3] => { results := [.lit (.bool true)], args := [d1, d2, d3] }
  | _ => none }
def volumeSurvivesRow : OpenClaim := { program := "ytfhcecfddejcdaa", sum := "4e535cc508e10956350eacfd977468a3c5994fd40a8262b54534d1c9097eaba0", func := "obelus/obeluslaw53.VolumeSurvives", spec := "volumeSurvives", inPlace := ["internal/abi.NoEscape", "internal/bytealg.MakeNoZero"], unfollowed := true, recurses := true, apart := false }
def VolumeSurvivesSaid : Prop := volumeSurvivesRow.holds Try.pinned (OpenSpec.ofChange volumeSurvivesSpec)

/-- ITS FALSE NEIGHBOUR: 'it returns false'. Refute it at one input. -/
def volumeSurvivesWrong : ChangeSpec := { name := "volumeSurvives", fn := fun _ => fun
  | [d1, d2, d3] => { results := [.lit (.bool false)], args := [d1, d2, d3] }
  | _ => none }
def VolumeSurvivesWrongFalsely : Prop := volumeSurvivesRow.holds Try.pinned (OpenSpec.ofChange volumeSurvivesWrong)

/-- 'obeluslaw53.VolumeFull': WHATEVER THE INPUT: true; the input reads as it did. -/
def volumeFullSpec : ChangeSpec := { name := "volumeFull", fn := fun _ => fun
  | [d1, d2] => { results := [.lit (.bool true)], args := [d1, d2] }
  | _ => none }
def volumeFullRow : OpenClaim := { program := "ytfhcecfddejcdaa", sum := "4e535cc508e10956350eacfd977468a3c5994fd40a8262b54534d1c9097eaba0", func := "obelus/obeluslaw53.VolumeFull", spec := "volumeFull", inPlace := ["internal/abi.NoEscape", "internal/bytealg.MakeNoZero"], unfollowed := true, recurses := true, apart := false }
def VolumeFullSaid : Prop := volumeFullRow.holds Try.pinned (OpenSpec.ofChange volumeFullSpec)

/-- ITS FALSE NEIGHBOUR: 'it returns false'. Refute it at one input. -/
def volumeFullWrong : ChangeSpec := { name := "volumeFull", fn := fun _ => fun
  | [d1, d2] => { results := [.lit (.bool false)], args := [d1, d2] }
  | _ => none }
def VolumeFullWrongFalsely : Prop := volumeFullRow.holds Try.pinned (OpenSpec.ofChange volumeFullWrong)

/-- 'obeluslaw53.VolumeErrors': WHATEVER THE INPUT: true; the input reads as it did. -/
def volumeErrorsSpec : ChangeSpec := { name := "volumeErrors", fn := fun _ => fun
  | [d1, d2, d3] => { results := [.lit (.bool true)], args := [d1, d2, d3] }
  | _ => none }
def volumeErrorsRow : OpenClaim := { program := "ytfhcecfddejcdaa", sum := "4e535cc508e10956350eacfd977468a3c5994fd40a8262b54534d1c9097eaba0", func := "obelus/obeluslaw53.VolumeErrors", spec := "volumeErrors", inPlace := ["internal/abi.NoEscape", "internal/bytealg.MakeNoZero"], unfollowed := true, recurses := true, apart := false }
def VolumeErrorsSaid : Prop := volumeErrorsRow.holds Try.pinned (OpenSpec.ofChange volumeErrorsSpec)

/-- ITS FALSE NEIGHBOUR: 'it returns false'. Refute it at one input. -/
def volumeErrorsWrong : ChangeSpec := { name := "volumeErrors", fn := fun _ => fun
  | [d1, d2, d3] => { results := [.lit (.bool false)], args := [d1, d2, d3] }
  | _ => none }
def VolumeErrorsWrongFalsely : Prop := volumeErrorsRow.holds Try.pinned (OpenSpec.ofChange volumeErrorsWrong)

/-- 'obeluslaw53.VolumePlays': WHATEVER THE INPUT: true; the input reads as it did. -/
def volumePlaysSpec : ChangeSpec := { name := "volumePlays", fn := fun _ => fun
  | [d] => { results := [.lit (.bool true)], args := [d] }
  | _ => none }
def volumePlaysRow : OpenClaim := { program := "ytfhcecfddejcdaa", sum := "4e535cc508e10956350eacfd977468a3c5994fd40a8262b54534d1c9097eaba0", func := "obelus/obeluslaw53.VolumePlays", spec := "volumePlays", inPlace := ["internal/abi.NoEscape", "internal/bytealg.MakeNoZero"], unfollowed := true, recurses := true, apart := false }
def VolumePlaysSaid : Prop := volumePlaysRow.holds Try.pinned (OpenSpec.ofChange volumePlaysSpec)

/-- ITS FALSE NEIGHBOUR: 'it returns false'. Refute it at one input. -/
def volumePlaysWrong : ChangeSpec := { name := "volumePlays", fn := fun _ => fun
  | [d] => { results := [.lit (.bool false)], args := [d] }
  | _ => none }
def VolumePlaysWrongFalsely : Prop := volumePlaysRow.holds Try.pinned (OpenSpec.ofChange volumePlaysWrong)

/-- 'obeluslaw53.VolumeLoses': WHATEVER THE INPUT: true; the input reads as it did. -/
def volumeLosesSpec : ChangeSpec := { name := "volumeLoses", fn := fun _ => fun
  | [d1, d2] => { results := [.lit (.bool true)], args := [d1, d2] }
  | _ => none }
def volumeLosesRow : OpenClaim := { program := "ytfhcecfddejcdaa", sum := "4e535cc508e10956350eacfd977468a3c5994fd40a8262b54534d1c9097eaba0", func := "obelus/obeluslaw53.VolumeLoses", spec := "volumeLoses", inPlace := ["internal/abi.NoEscape", "internal/bytealg.MakeNoZero", "maps.clone"], unfollowed := true, recurses := true, apart := false }
def VolumeLosesSaid : Prop := volumeLosesRow.holds Try.pinned (OpenSpec.ofChange volumeLosesSpec)

/-- ITS FALSE NEIGHBOUR: 'it returns false'. Refute it at one input. -/
def volumeLosesWrong : ChangeSpec := { name := "volumeLoses", fn := fun _ => fun
  | [d1, d2] => { results := [.lit (.bool false)], args := [d1, d2] }
  | _ => none }
def VolumeLosesWrongFalsely : Prop := volumeLosesRow.holds Try.pinned (OpenSpec.ofChange volumeLosesWrong)

/-- 'obeluslaw53.VolumeLimits': WHATEVER THE INPUT: true; the input reads as it did. -/
def volumeLimitsSpec : ChangeSpec := { name := "volumeLimits", fn := fun _ => fun
  | [d1, d2] => { results := [.lit (.bool true)], args := [d1, d2] }
  | _ => none }
def volumeLimitsRow : OpenClaim := { program := "ytfhcecfddejcdaa", sum := "4e535cc508e10956350eacfd977468a3c5994fd40a8262b54534d1c9097eaba0", func := "obelus/obeluslaw53.VolumeLimits", spec := "volumeLimits", inPlace := ["internal/abi.NoEscape", "internal/bytealg.MakeNoZero", "maps.clone"], unfollowed := true, recurses := true, apart := false }
def VolumeLimitsSaid : Prop := volumeLimitsRow.holds Try.pinned (OpenSpec.ofChange volumeLimitsSpec)

/-- ITS FALSE NEIGHBOUR: 'it returns false'. Refute it at one input. -/
def volumeLimitsWrong : ChangeSpec := { name := "volumeLimits", fn := fun _ => fun
  | [d1, d2] => { results := [.lit (.bool false)], args := [d1, d2] }
  | _ => none }
def VolumeLimitsWrongFalsely : Prop := volumeLimitsRow.holds Try.pinned (OpenSpec.ofChange volumeLimitsWrong)

/-- 'obeluslaw53.VolumeKeeps': WHATEVER THE INPUT: true; the input reads as it did. -/
def volumeKeepsSpec : ChangeSpec := { name := "volumeKeeps", fn := fun _ => fun
  | [d1, d2] => { results := [.lit (.bool true)], args := [d1, d2] }
  | _ => none }
def volumeKeepsRow : OpenClaim := { program := "ytfhcecfddejcdaa", sum := "4e535cc508e10956350eacfd977468a3c5994fd40a8262b54534d1c9097eaba0", func := "obelus/obeluslaw53.VolumeKeeps", spec := "volumeKeeps", inPlace := ["internal/abi.NoEscape", "internal/bytealg.MakeNoZero", "maps.clone"], unfollowed := true, recurses := true, apart := false }
def VolumeKeepsSaid : Prop := volumeKeepsRow.holds Try.pinned (OpenSpec.ofChange volumeKeepsSpec)

/-- ITS FALSE NEIGHBOUR: 'it returns false'. Refute it at one input. -/
def volumeKeepsWrong : ChangeSpec := { name := "volumeKeeps", fn := fun _ => fun
  | [d1, d2] => { results := [.lit (.bool false)], args := [d1, d2] }
  | _ => none }
def VolumeKeepsWrongFalsely : Prop := volumeKeepsRow.holds Try.pinned (OpenSpec.ofChange volumeKeepsWrong)

/-- 'obeluslaw53.VolumeNil': WHATEVER THE INPUT: true; the input reads as it did. -/
def volumeNilSpec : ChangeSpec := { name := "volumeNil", fn := fun _ => fun
  | [d1, d2] => { results := [.lit (.bool true)], args := [d1, d2] }
  | _ => none }
def volumeNilRow : OpenClaim := { program := "ytfhcecfddejcdaa", sum := "4e535cc508e10956350eacfd977468a3c5994fd40a8262b54534d1c9097eaba0", func := "obelus/obeluslaw53.VolumeNil", spec := "volumeNil", inPlace := ["internal/abi.NoEscape", "internal/bytealg.MakeNoZero", "maps.clone"], unfollowed := true, recurses := true, apart := false }
def VolumeNilSaid : Prop := volumeNilRow.holds Try.pinned (OpenSpec.ofChange volumeNilSpec)

/-- ITS FALSE NEIGHBOUR: 'it returns false'. Refute it at one input. -/
def volumeNilWrong : ChangeSpec := { name := "volumeNil", fn := fun _ => fun
  | [d1, d2] => { results := [.lit (.bool false)], args := [d1, d2] }
  | _ => none }
def VolumeNilWrongFalsely : Prop := volumeNilRow.holds Try.pinned (OpenSpec.ofChange volumeNilWrong)

/- THE SECOND FORM. 'bulk': how many values and letters a reading holds, each counted each time it is reached (what is shared counts as often as it is met; a slice's spare places count too). A statement '..UptoSaid' is the law's where the arguments, and the package variables that the reading takes, are together of bulk at most 1048576: NARROWER than '..Said'. Prove '..Said' where nothing that the law and all that it calls make is longer than what came in: it says more and counts as full. Else prove '..UptoSaid'. A law counts once. -/
mutual
def uptoBulk {H : Type} : DataW H → Nat
  | .lit (.string bytes) => bytes.length + 1
  | .lit _ => 1
  | .nil => 1
  | .ptr d => uptoBulk d + 1
  | .slice elems spare => uptoBulkAll elems + uptoBulkAll spare + 1
  | .agg parts => uptoBulkAll parts + 1
  | .iface _ d => uptoBulk d + 1
  | .map entries => uptoBulkEntries entries + 1
  | .held _ => 1
def uptoBulkAll {H : Type} : List (DataW H) → Nat
  | [] => 0
  | d :: r => uptoBulk d + uptoBulkAll r
def uptoBulkEntries {H : Type} : List (Lit × DataW H) → Nat
  | [] => 0
  | x :: r => uptoBulkEntry x + uptoBulkEntries r
def uptoBulkEntry {H : Type} : Lit × DataW H → Nat
  | (.string bytes, d) => bytes.length + uptoBulk d + 1
  | (_, d) => uptoBulk d + 1
 end
def uptoSmall : (H : Type) → List (DataW H) → Bool := fun _ ds => decide (uptoBulkAll ds ≤ 1048576)
def OpenSpec.upto (s : _root_.Go.ChangeSpec) : _root_.Go.OpenSpec := { _root_.Go.OpenSpec.ofChange s with cond := some uptoSmall }

/-- 'obeluslaw53.VolumeSurvives', WHERE WHAT IT READS IS OF BULK AT MOST 1048576: true; the input reads as it did. -/
def volumeSurvivesUptoRow : OpenClaim := { program := "ytfhcecfddejcdaa", sum := "4e535cc508e10956350eacfd977468a3c5994fd40a8262b54534d1c9097eaba0", func := "obelus/obeluslaw53.VolumeSurvives", spec := "volumeSurvives", inPlace := ["internal/abi.NoEscape", "internal/bytealg.MakeNoZero"], unfollowed := true, recurses := true, apart := false, narrowed := true }
def VolumeSurvivesUptoSaid : Prop := volumeSurvivesUptoRow.holds Try.pinned (OpenSpec.upto volumeSurvivesSpec)

/-- 'obeluslaw53.VolumeFull', WHERE WHAT IT READS IS OF BULK AT MOST 1048576: true; the input reads as it did. -/
def volumeFullUptoRow : OpenClaim := { program := "ytfhcecfddejcdaa", sum := "4e535cc508e10956350eacfd977468a3c5994fd40a8262b54534d1c9097eaba0", func := "obelus/obeluslaw53.VolumeFull", spec := "volumeFull", inPlace := ["internal/abi.NoEscape", "internal/bytealg.MakeNoZero"], unfollowed := true, recurses := true, apart := false, narrowed := true }
def VolumeFullUptoSaid : Prop := volumeFullUptoRow.holds Try.pinned (OpenSpec.upto volumeFullSpec)

/-- 'obeluslaw53.VolumeErrors', WHERE WHAT IT READS IS OF BULK AT MOST 1048576: true; the input reads as it did. -/
def volumeErrorsUptoRow : OpenClaim := { program := "ytfhcecfddejcdaa", sum := "4e535cc508e10956350eacfd977468a3c5994fd40a8262b54534d1c9097eaba0", func := "obelus/obeluslaw53.VolumeErrors", spec := "volumeErrors", inPlace := ["internal/abi.NoEscape", "internal/bytealg.MakeNoZero"], unfollowed := true, recurses := true, apart := false, narrowed := true }
def VolumeErrorsUptoSaid : Prop := volumeErrorsUptoRow.holds Try.pinned (OpenSpec.upto volumeErrorsSpec)

/-- 'obeluslaw53.VolumePlays', WHERE WHAT IT READS IS OF BULK AT MOST 1048576: true; the input reads as it did. -/
def volumePlaysUptoRow : OpenClaim := { program := "ytfhcecfddejcdaa", sum := "4e535cc508e10956350eacfd977468a3c5994fd40a8262b54534d1c9097eaba0", func := "obelus/obeluslaw53.VolumePlays", spec := "volumePlays", inPlace := ["internal/abi.NoEscape", "internal/bytealg.MakeNoZero"], unfollowed := true, recurses := true, apart := false, narrowed := true }
def VolumePlaysUptoSaid : Prop := volumePlaysUptoRow.holds Try.pinned (OpenSpec.upto volumePlaysSpec)

/-- 'obeluslaw53.VolumeLoses', WHERE WHAT IT READS IS OF BULK AT MOST 1048576: true; the input reads as it did. -/
def volumeLosesUptoRow : OpenClaim := { program := "ytfhcecfddejcdaa", sum := "4e535cc508e10956350eacfd977468a3c5994fd40a8262b54534d1c9097eaba0", func := "obelus/obeluslaw53.VolumeLoses", spec := "volumeLoses", inPlace := ["internal/abi.NoEscape", "internal/bytealg.MakeNoZero", "maps.clone"], unfollowed := true, recurses := true, apart := false, narrowed := true }
def VolumeLosesUptoSaid : Prop := volumeLosesUptoRow.holds Try.pinned (OpenSpec.upto volumeLosesSpec)

/-- 'obeluslaw53.VolumeLimits', WHERE WHAT IT READS IS OF BULK AT MOST 1048576: true; the input reads as it did. -/
def volumeLimitsUptoRow : OpenClaim := { program := "ytfhcecfddejcdaa", sum := "4e535cc508e10956350eacfd977468a3c5994fd40a8262b54534d1c9097eaba0", func := "obelus/obeluslaw53.VolumeLimits", spec := "volumeLimits", inPlace := ["internal/abi.NoEscape", "internal/bytealg.MakeNoZero", "maps.clone"], unfollowed := true, recurses := true, apart := false, narrowed := true }
def VolumeLimitsUptoSaid : Prop := volumeLimitsUptoRow.holds Try.pinned (OpenSpec.upto volumeLimitsSpec)

/-- 'obeluslaw53.VolumeKeeps', WHERE WHAT IT READS IS OF BULK AT MOST 1048576: true; the input reads as it did. -/
def volumeKeepsUptoRow : OpenClaim := { program := "ytfhcecfddejcdaa", sum := "4e535cc508e10956350eacfd977468a3c5994fd40a8262b54534d1c9097eaba0", func := "obelus/obeluslaw53.VolumeKeeps", spec := "volumeKeeps", inPlace := ["internal/abi.NoEscape", "internal/bytealg.MakeNoZero", "maps.clone"], unfollowed := true, recurses := true, apart := false, narrowed := true }
def VolumeKeepsUptoSaid : Prop := volumeKeepsUptoRow.holds Try.pinned (OpenSpec.upto volumeKeepsSpec)

/-- 'obeluslaw53.VolumeNil', WHERE WHAT IT READS IS OF BULK AT MOST 1048576: true; the input reads as it did. -/
def volumeNilUptoRow : OpenClaim := { program := "ytfhcecfddejcdaa", sum := "4e535cc508e10956350eacfd977468a3c5994fd40a8262b54534d1c9097eaba0", func := "obelus/obeluslaw53.VolumeNil", spec := "volumeNil", inPlace := ["internal/abi.NoEscape", "internal/bytealg.MakeNoZero", "maps.clone"], unfollowed := true, recurses := true, apart := false, narrowed := true }
def VolumeNilUptoSaid : Prop := volumeNilUptoRow.holds Try.pinned (OpenSpec.upto volumeNilSpec)

end Rows
end Go.Proofs.Ytfhcecfddejcdaa
