/-
  NARROWER THAN 'FOR EVERY INPUT', by the rows' own cells (each row's printed sentence says how): HyphenateNil: laid · HyphenatePrints: laid · HyphenateParses: laid · HyphenateNew: laid · HyphenateOrders: laid · HyphenateLevels: laid · HyphenatePoints: laid · HyphenateMinima: laid · HyphenateParts: laid.
  DERIVED. THE GIVEN ROWS OF THIS SEAT. 9 by the template 'for every input the law returns true; each argument reads behind the call as it read before'; 0 by the template 'total and deterministic' (their statements: YtdcdlmigagjbiaaDoorTotals.lean).
  GIVEN WITH THE SEED: the statements are not yours to turn. If you find one false, say at which input.
  Laid BY PROGRAM, IN A SANDBOX (cutbox-rows.mjs): the forced cells as the released guide's own fill.sh prints them over the translation 816aaf05e0617a1f… (all of the seat's roots in one cut). By AI agents, Wed Nov 11 2026. No macro, syntax, notation, axiom, sorry.
-/
import Derived.Test.YtdcdlmigagjbiaaDoorChecked
import GoSem.PinnedTables
import GoSem.Claim
import GoSem.ClaimJoined
import GoSem.ClaimMapViews
import Derived.JoinedTies
import Derived.KernelRfl
namespace Go.Proofs.YtdcdlmigagjbiaaDoor
/- THE CELL 'sum', in the pinned program and in every row, IS THE sha256 OF THE DUMP (.gsa) THAT YtdcdlmigagjbiaaDoorProg.lean LOADS. Nothing in Lean hashes anything: it is a label: what it is worth is what the hold of that sum in a sandbox is worth. -/
noncomputable def Tryd.pinned : Pinned := { name := "ytdcdlmigagjbiaadoor", sum := "816aaf05e0617a1f87c2ab3ba3f5e8a09ee257c47dde9737047ad0e44c181a8f", checked := Tryd.checked }
namespace Rows
def none {H : Type} : Left H := { results := [], args := [] }

/- WHAT THE LISTED PACKAGE-LEVEL VARIABLES READ AS WHEN THE CALL BEGINS. Each datum BY PROGRAM (the guide's laid-datum.mjs) off the statement by which the dump's own 'gosem.cut.vars' lays the variable. In a bare row this is a premise. The card (YtdcdlmigagjbiaaDoorCards.lean) ties it to the program's text. -/
def laid_unicode_utf8_acceptRanges {H : Type} : DataW H := .agg [.agg [.lit (.int .u8 128), .lit (.int .u8 191)], .agg [.lit (.int .u8 160), .lit (.int .u8 191)], .agg [.lit (.int .u8 128), .lit (.int .u8 159)], .agg [.lit (.int .u8 144), .lit (.int .u8 191)], .agg [.lit (.int .u8 128), .lit (.int .u8 143)], .agg [.lit (.int .u8 0), .lit (.int .u8 0)], .agg [.lit (.int .u8 0), .lit (.int .u8 0)], .agg [.lit (.int .u8 0), .lit (.int .u8 0)], .agg [.lit (.int .u8 0), .lit (.int .u8 0)], .agg [.lit (.int .u8 0), .lit (.int .u8 0)], .agg [.lit (.int .u8 0), .lit (.int .u8 0)], .agg [.lit (.int .u8 0), .lit (.int .u8 0)], .agg [.lit (.int .u8 0), .lit (.int .u8 0)], .agg [.lit (.int .u8 0), .lit (.int .u8 0)], .agg [.lit (.int .u8 0), .lit (.int .u8 0)], .agg [.lit (.int .u8 0), .lit (.int .u8 0)]]
/-- One of Go's own tables, pinned by name: the form's constant. -/
def laid_unicode_utf8_first : DataW Unit := Go.Pinned.utf8First

/-- 'obeluslaw45.HyphenateNil': WHATEVER THE INPUT: true; the input reads as it did. -/
def hyphenateNilSpec : ChangeSpec := { name := "hyphenateNil", fn := fun _ => fun
  | [d1, d2] => { results := [.lit (.bool true)], args := [d1, d2] }
  | _ => none }
def hyphenateNilRow : OpenClaim := { program := "ytdcdlmigagjbiaadoor", sum := "816aaf05e0617a1f87c2ab3ba3f5e8a09ee257c47dde9737047ad0e44c181a8f", func := "obelus/obeluslaw45.HyphenateNil", spec := "hyphenateNil", inPlace := ["internal/abi.NoEscape", "internal/bytealg.CountString", "internal/bytealg.IndexByteString", "internal/bytealg.IndexString", "internal/bytealg.MakeNoZero"], named := ["unicode/utf8.first", "unicode/utf8.acceptRanges", "internal/bytealg.MaxLen"], apart := false, laid := [("unicode/utf8.acceptRanges", laid_unicode_utf8_acceptRanges), ("unicode/utf8.first", laid_unicode_utf8_first)] }
def HyphenateNilSaid : Prop := hyphenateNilRow.holds Tryd.pinned (OpenSpec.ofChange hyphenateNilSpec)

/-- ITS FALSE NEIGHBOUR: 'it returns false'. Refute it at one input. -/
def hyphenateNilWrong : ChangeSpec := { name := "hyphenateNil", fn := fun _ => fun
  | [d1, d2] => { results := [.lit (.bool false)], args := [d1, d2] }
  | _ => none }
def HyphenateNilWrongFalsely : Prop := hyphenateNilRow.holds Tryd.pinned (OpenSpec.ofChange hyphenateNilWrong)

/-- 'obeluslaw45.HyphenatePrints': WHATEVER THE INPUT: true; the input reads as it did. -/
def hyphenatePrintsSpec : ChangeSpec := { name := "hyphenatePrints", fn := fun _ => fun
  | [d] => { results := [.lit (.bool true)], args := [d] }
  | _ => none }
def hyphenatePrintsRow : OpenClaim := { program := "ytdcdlmigagjbiaadoor", sum := "816aaf05e0617a1f87c2ab3ba3f5e8a09ee257c47dde9737047ad0e44c181a8f", func := "obelus/obeluslaw45.HyphenatePrints", spec := "hyphenatePrints", inPlace := ["internal/abi.NoEscape", "internal/bytealg.CountString", "internal/bytealg.IndexByteString", "internal/bytealg.IndexString", "internal/bytealg.MakeNoZero"], named := ["unicode/utf8.first", "unicode/utf8.acceptRanges", "internal/bytealg.MaxLen"], apart := false, laid := [("unicode/utf8.acceptRanges", laid_unicode_utf8_acceptRanges), ("unicode/utf8.first", laid_unicode_utf8_first)] }
def HyphenatePrintsSaid : Prop := hyphenatePrintsRow.holds Tryd.pinned (OpenSpec.ofChange hyphenatePrintsSpec)

/-- ITS FALSE NEIGHBOUR: 'it returns false'. Refute it at one input. -/
def hyphenatePrintsWrong : ChangeSpec := { name := "hyphenatePrints", fn := fun _ => fun
  | [d] => { results := [.lit (.bool false)], args := [d] }
  | _ => none }
def HyphenatePrintsWrongFalsely : Prop := hyphenatePrintsRow.holds Tryd.pinned (OpenSpec.ofChange hyphenatePrintsWrong)

/-- 'obeluslaw45.HyphenateParses': WHATEVER THE INPUT: true; the input reads as it did. -/
def hyphenateParsesSpec : ChangeSpec := { name := "hyphenateParses", fn := fun _ => fun
  | [d] => { results := [.lit (.bool true)], args := [d] }
  | _ => none }
def hyphenateParsesRow : OpenClaim := { program := "ytdcdlmigagjbiaadoor", sum := "816aaf05e0617a1f87c2ab3ba3f5e8a09ee257c47dde9737047ad0e44c181a8f", func := "obelus/obeluslaw45.HyphenateParses", spec := "hyphenateParses", inPlace := ["internal/abi.NoEscape", "internal/bytealg.CountString", "internal/bytealg.IndexByteString", "internal/bytealg.IndexString", "internal/bytealg.MakeNoZero"], named := ["unicode/utf8.first", "unicode/utf8.acceptRanges", "internal/bytealg.MaxLen"], apart := false, laid := [("unicode/utf8.acceptRanges", laid_unicode_utf8_acceptRanges), ("unicode/utf8.first", laid_unicode_utf8_first)] }
def HyphenateParsesSaid : Prop := hyphenateParsesRow.holds Tryd.pinned (OpenSpec.ofChange hyphenateParsesSpec)

/-- ITS FALSE NEIGHBOUR: 'it returns false'. Refute it at one input. -/
def hyphenateParsesWrong : ChangeSpec := { name := "hyphenateParses", fn := fun _ => fun
  | [d] => { results := [.lit (.bool false)], args := [d] }
  | _ => none }
def HyphenateParsesWrongFalsely : Prop := hyphenateParsesRow.holds Tryd.pinned (OpenSpec.ofChange hyphenateParsesWrong)

/-- 'obeluslaw45.HyphenateNew': WHATEVER THE INPUT: true; the input reads as it did. -/
def hyphenateNewSpec : ChangeSpec := { name := "hyphenateNew", fn := fun _ => fun
  | [d] => { results := [.lit (.bool true)], args := [d] }
  | _ => none }
def hyphenateNewRow : OpenClaim := { program := "ytdcdlmigagjbiaadoor", sum := "816aaf05e0617a1f87c2ab3ba3f5e8a09ee257c47dde9737047ad0e44c181a8f", func := "obelus/obeluslaw45.HyphenateNew", spec := "hyphenateNew", inPlace := ["internal/abi.NoEscape", "internal/bytealg.CountString", "internal/bytealg.IndexByteString", "internal/bytealg.IndexString", "internal/bytealg.MakeNoZero"], named := ["unicode/utf8.first", "unicode/utf8.acceptRanges", "internal/bytealg.MaxLen"], apart := false, laid := [("unicode/utf8.acceptRanges", laid_unicode_utf8_acceptRanges), ("unicode/utf8.first", laid_unicode_utf8_first)] }
def HyphenateNewSaid : Prop := hyphenateNewRow.holds Tryd.pinned (OpenSpec.ofChange hyphenateNewSpec)

/-- ITS FALSE NEIGHBOUR: 'it returns false'. Refute it at one input. -/
def hyphenateNewWrong : ChangeSpec := { name := "hyphenateNew", fn := fun _ => fun
  | [d] => { results := [.lit (.bool false)], args := [d] }
  | _ => none }
def HyphenateNewWrongFalsely : Prop := hyphenateNewRow.holds Tryd.pinned (OpenSpec.ofChange hyphenateNewWrong)

/-- 'obeluslaw45.HyphenateOrders': WHATEVER THE INPUT: true; the input reads as it did. -/
def hyphenateOrdersSpec : ChangeSpec := { name := "hyphenateOrders", fn := fun _ => fun
  | [d1, d2] => { results := [.lit (.bool true)], args := [d1, d2] }
  | _ => none }
def hyphenateOrdersRow : OpenClaim := { program := "ytdcdlmigagjbiaadoor", sum := "816aaf05e0617a1f87c2ab3ba3f5e8a09ee257c47dde9737047ad0e44c181a8f", func := "obelus/obeluslaw45.HyphenateOrders", spec := "hyphenateOrders", inPlace := ["internal/abi.NoEscape", "internal/bytealg.CountString", "internal/bytealg.IndexByteString", "internal/bytealg.IndexString", "internal/bytealg.MakeNoZero"], named := ["unicode/utf8.first", "unicode/utf8.acceptRanges", "internal/bytealg.MaxLen"], apart := false, laid := [("unicode/utf8.acceptRanges", laid_unicode_utf8_acceptRanges), ("unicode/utf8.first", laid_unicode_utf8_first)] }
def HyphenateOrdersSaid : Prop := hyphenateOrdersRow.holds Tryd.pinned (OpenSpec.ofChange hyphenateOrdersSpec)

/-- ITS FALSE NEIGHBOUR: 'it returns false'. Refute it at one input. -/
def hyphenateOrdersWrong : ChangeSpec := { name := "hyphenateOrders", fn := fun _ => fun
  | [d1, d2] => { results := [.lit (.bool false)], args := [d1, d2] }
  | _ => none }
def HyphenateOrdersWrongFalsely : Prop := hyphenateOrdersRow.holds Tryd.pinned (OpenSpec.ofChange hyphenateOrdersWrong)

/-- 'obeluslaw45.HyphenateLevels': WHATEVER THE INPUT: true; the input reads as it did. -/
def hyphenateLevelsSpec : ChangeSpec := { name := "hyphenateLevels", fn := fun _ => fun
  | [d1, d2] => { results := [.lit (.bool true)], args := [d1, d2] }
  | _ => none }
def hyphenateLevelsRow : OpenClaim := { program := "ytdcdlmigagjbiaadoor", sum := "816aaf05e0617a1f87c2ab3ba3f5e8a09ee257c47dde9737047ad0e44c181a8f", func := "obelus/obeluslaw45.HyphenateLevels", spec := "hyphenateLevels", inPlace := ["internal/abi.NoEscape", "internal/bytealg.CountString", "internal/bytealg.IndexByteString", "internal/bytealg.IndexString", "internal/bytealg.MakeNoZero"], named := ["unicode/utf8.first", "unicode/utf8.acceptRanges", "internal/bytealg.MaxLen"], apart := false, laid := [("unicode/utf8.acceptRanges", laid_unicode_utf8_acceptRanges), ("unicode/utf8.first", laid_unicode_utf8_first)] }
def HyphenateLevelsSaid : Prop := hyphenateLevelsRow.holds Tryd.pinned (OpenSpec.ofChange hyphenateLevelsSpec)

/-- ITS FALSE NEIGHBOUR: 'it returns false'. Refute it at one input. -/
def hyphenateLevelsWrong : ChangeSpec := { name := "hyphenateLevels", fn := fun _ => fun
  | [d1, d2] => { results := [.lit (.bool false)], args := [d1, d2] }
  | _ => none }
def HyphenateLevelsWrongFalsely : Prop := hyphenateLevelsRow.holds Tryd.pinned (OpenSpec.ofChange hyphenateLevelsWrong)

/-- 'obeluslaw45.HyphenatePoints': WHATEVER THE INPUT: true; the input reads as it did. -/
def hyphenatePointsSpec : ChangeSpec := { name := "hyphenatePoints", fn := fun _ => fun
  | [d1, d2, d3] => { results := [.lit (.bool true)], args := [d1, d2, d3] }
  | _ => none }
def hyphenatePointsRow : OpenClaim := { program := "ytdcdlmigagjbiaadoor", sum := "816aaf05e0617a1f87c2ab3ba3f5e8a09ee257c47dde9737047ad0e44c181a8f", func := "obelus/obeluslaw45.HyphenatePoints", spec := "hyphenatePoints", inPlace := ["internal/abi.NoEscape", "internal/bytealg.CountString", "internal/bytealg.IndexByteString", "internal/bytealg.IndexString", "internal/bytealg.MakeNoZero"], named := ["unicode/utf8.first", "unicode/utf8.acceptRanges", "internal/bytealg.MaxLen"], apart := false, laid := [("unicode/utf8.acceptRanges", laid_unicode_utf8_acceptRanges), ("unicode/utf8.first", laid_unicode_utf8_first)] }
def HyphenatePointsSaid : Prop := hyphenatePointsRow.holds Tryd.pinned (OpenSpec.ofChange hyphenatePointsSpec)

/-- ITS FALSE NEIGHBOUR: 'it returns false'. Refute it at one input. -/
def hyphenatePointsWrong : ChangeSpec := { name := "hyphenatePoints", fn := fun _ => fun
  | [d1, d2, d3] => { results := [.lit (.bool false)], args := [d1, d2, d3] }
  | _ => none }
def HyphenatePointsWrongFalsely : Prop := hyphenatePointsRow.holds Tryd.pinned (OpenSpec.ofChange hyphenatePointsWrong)

/-- 'obeluslaw45.HyphenateMinima': WHATEVER THE INPUT: true; the input reads as it did. -/
def hyphenateMinimaSpec : ChangeSpec := { name := "hyphenateMinima", fn := fun _ => fun
  | [d1, d2, d3] => { results := [.lit (.bool true)], args := [d1, d2, d3] }
  | _ => none }
def hyphenateMinimaRow : OpenClaim := { program := "ytdcdlmigagjbiaadoor", sum := "816aaf05e0617a1f87c2ab3ba3f5e8a09ee257c47dde9737047ad0e44c181a8f", func := "obelus/obeluslaw45.HyphenateMinima", spec := "hyphenateMinima", inPlace := ["internal/abi.NoEscape", "internal/bytealg.CountString", "internal/bytealg.IndexByteString", "internal/bytealg.IndexString", "internal/bytealg.MakeNoZero"], named := ["unicode/utf8.first", "unicode/utf8.acceptRanges", "internal/bytealg.MaxLen"], apart := false, laid := [("unicode/utf8.acceptRanges", laid_unicode_utf8_acceptRanges), ("unicode/utf8.first", laid_unicode_utf8_first)] }
def HyphenateMinimaSaid : Prop := hyphenateMinimaRow.holds Tryd.pinned (OpenSpec.ofChange hyphenateMinimaSpec)

/-- ITS FALSE NEIGHBOUR: 'it returns false'. Refute it at one input. -/
def hyphenateMinimaWrong : ChangeSpec := { name := "hyphenateMinima", fn := fun _ => fun
  | [d1, d2, d3] => { results := [.lit (.bool false)], args := [d1, d2, d3] }
  | _ => none }
def HyphenateMinimaWrongFalsely : Prop := hyphenateMinimaRow.holds Tryd.pinned (OpenSpec.ofChange hyphenateMinimaWrong)

/-- 'obeluslaw45.HyphenateParts': WHATEVER THE INPUT: true; the input reads as it did. -/
def hyphenatePartsSpec : ChangeSpec := { name := "hyphenateParts", fn := fun _ => fun
  | [d1, d2] => { results := [.lit (.bool true)], args := [d1, d2] }
  | _ => none }
def hyphenatePartsRow : OpenClaim := { program := "ytdcdlmigagjbiaadoor", sum := "816aaf05e0617a1f87c2ab3ba3f5e8a09ee257c47dde9737047ad0e44c181a8f", func := "obelus/obeluslaw45.HyphenateParts", spec := "hyphenateParts", inPlace := ["internal/abi.NoEscape", "internal/bytealg.CountString", "internal/bytealg.IndexByteString", "internal/bytealg.IndexString", "internal/bytealg.MakeNoZero"], named := ["unicode/utf8.first", "unicode/utf8.acceptRanges", "internal/bytealg.MaxLen"], apart := false, laid := [("unicode/utf8.acceptRanges", laid_unicode_utf8_acceptRanges), ("unicode/utf8.first", laid_unicode_utf8_first)] }
def HyphenatePartsSaid : Prop := hyphenatePartsRow.holds Tryd.pinned (OpenSpec.ofChange hyphenatePartsSpec)

/-- ITS FALSE NEIGHBOUR: 'it returns false'. Refute it at one input. -/
def hyphenatePartsWrong : ChangeSpec := { name := "hyphenateParts", fn := fun _ => fun
  | [d1, d2] => { results := [.lit (.bool false)], args := [d1, d2] }
  | _ => none }
def HyphenatePartsWrongFalsely : Prop := hyphenatePartsRow.holds Tryd.pinned (OpenSpec.ofChange hyphenatePartsWrong)

/- THE SECOND FORM. 'bulk': how many values and letters a reading holds, each counted each time it is reached (what is shared counts as often as it is met; a slice's spare places count too). A statement '..UptoSaid' is the law's where the arguments, and the package variables that the reading takes, are together of bulk at most 1048576: NARROWER than '..Said'. Prove '..Said' where nothing that the law and all that it calls make is longer than what came in: it says more and counts as full. Else prove '..UptoSaid'. A law counts once. -/
mutual
def uptoBulk {H : Type} : DataW H → Nat
  | .lit (.string bytes) => bytes.length + 1
  | .lit _ => 1
  | .nil => 1
  | .ptr d => uptoBulk d + 1
  | .slice elems spare => uptoBulkAll elems + uptoBulkAll spare + 1
  | .agg parts => uptoBulkAll parts + 1
  | .iface _ d => uptoBulk d + 1
  | .map entries => uptoBulkEntries entries + 1
  | .held _ => 1
def uptoBulkAll {H : Type} : List (DataW H) → Nat
  | [] => 0
  | d :: r => uptoBulk d + uptoBulkAll r
def uptoBulkEntries {H : Type} : List (Lit × DataW H) → Nat
  | [] => 0
  | x :: r => uptoBulkEntry x + uptoBulkEntries r
def uptoBulkEntry {H : Type} : Lit × DataW H → Nat
  | (.string bytes, d) => bytes.length + uptoBulk d + 1
  | (_, d) => uptoBulk d + 1
 end
def uptoSmall : (H : Type) → List (DataW H) → Bool := fun _ ds => decide (uptoBulkAll ds ≤ 1048576)
def OpenSpec.upto (s : _root_.Go.ChangeSpec) : _root_.Go.OpenSpec := { _root_.Go.OpenSpec.ofChange s with cond := some uptoSmall }

/-- 'obeluslaw45.HyphenateNil', WHERE WHAT IT READS IS OF BULK AT MOST 1048576: true; the input reads as it did. -/
def hyphenateNilUptoRow : OpenClaim := { program := "ytdcdlmigagjbiaadoor", sum := "816aaf05e0617a1f87c2ab3ba3f5e8a09ee257c47dde9737047ad0e44c181a8f", func := "obelus/obeluslaw45.HyphenateNil", spec := "hyphenateNil", inPlace := ["internal/abi.NoEscape", "internal/bytealg.CountString", "internal/bytealg.IndexByteString", "internal/bytealg.IndexString", "internal/bytealg.MakeNoZero"], named := ["unicode/utf8.first", "unicode/utf8.acceptRanges", "internal/bytealg.MaxLen"], apart := false, laid := [("unicode/utf8.acceptRanges", laid_unicode_utf8_acceptRanges), ("unicode/utf8.first", laid_unicode_utf8_first)], narrowed := true }
def HyphenateNilUptoSaid : Prop := hyphenateNilUptoRow.holds Tryd.pinned (OpenSpec.upto hyphenateNilSpec)

/-- 'obeluslaw45.HyphenatePrints', WHERE WHAT IT READS IS OF BULK AT MOST 1048576: true; the input reads as it did. -/
def hyphenatePrintsUptoRow : OpenClaim := { program := "ytdcdlmigagjbiaadoor", sum := "816aaf05e0617a1f87c2ab3ba3f5e8a09ee257c47dde9737047ad0e44c181a8f", func := "obelus/obeluslaw45.HyphenatePrints", spec := "hyphenatePrints", inPlace := ["internal/abi.NoEscape", "internal/bytealg.CountString", "internal/bytealg.IndexByteString", "internal/bytealg.IndexString", "internal/bytealg.MakeNoZero"], named := ["unicode/utf8.first", "unicode/utf8.acceptRanges", "internal/bytealg.MaxLen"], apart := false, laid := [("unicode/utf8.acceptRanges", laid_unicode_utf8_acceptRanges), ("unicode/utf8.first", laid_unicode_utf8_first)], narrowed := true }
def HyphenatePrintsUptoSaid : Prop := hyphenatePrintsUptoRow.holds Tryd.pinned (OpenSpec.upto hyphenatePrintsSpec)

/-- 'obeluslaw45.HyphenateParses', WHERE WHAT IT READS IS OF BULK AT MOST 1048576: true; the input reads as it did. -/
def hyphenateParsesUptoRow : OpenClaim := { program := "ytdcdlmigagjbiaadoor", sum := "816aaf05e0617a1f87c2ab3ba3f5e8a09ee257c47dde9737047ad0e44c181a8f", func := "obelus/obeluslaw45.HyphenateParses", spec := "hyphenateParses", inPlace := ["internal/abi.NoEscape", "internal/bytealg.CountString", "internal/bytealg.IndexByteString", "internal/bytealg.IndexString", "internal/bytealg.MakeNoZero"], named := ["unicode/utf8.first", "unicode/utf8.acceptRanges", "internal/bytealg.MaxLen"], apart := false, laid := [("unicode/utf8.acceptRanges", laid_unicode_utf8_acceptRanges), ("unicode/utf8.first", laid_unicode_utf8_first)], narrowed := true }
def HyphenateParsesUptoSaid : Prop := hyphenateParsesUptoRow.holds Tryd.pinned (OpenSpec.upto hyphenateParsesSpec)

/-- 'obeluslaw45.HyphenateNew', WHERE WHAT IT READS IS OF BULK AT MOST 1048576: true; the input reads as it did. -/
def hyphenateNewUptoRow : OpenClaim := { program := "ytdcdlmigagjbiaadoor", sum := "816aaf05e0617a1f87c2ab3ba3f5e8a09ee257c47dde9737047ad0e44c181a8f", func := "obelus/obeluslaw45.HyphenateNew", spec := "hyphenateNew", inPlace := ["internal/abi.NoEscape", "internal/bytealg.CountString", "internal/bytealg.IndexByteString", "internal/bytealg.IndexString", "internal/bytealg.MakeNoZero"], named := ["unicode/utf8.first", "unicode/utf8.acceptRanges", "internal/bytealg.MaxLen"], apart := false, laid := [("unicode/utf8.acceptRanges", laid_unicode_utf8_acceptRanges), ("unicode/utf8.first", laid_unicode_utf8_first)], narrowed := true }
def HyphenateNewUptoSaid : Prop := hyphenateNewUptoRow.holds Tryd.pinned (OpenSpec.upto hyphenateNewSpec)

/-- 'obeluslaw45.HyphenateOrders', WHERE WHAT IT READS IS OF BULK AT MOST 1048576: true; the input reads as it did. -/
def hyphenateOrdersUptoRow : OpenClaim := { program := "ytdcdlmigagjbiaadoor", sum := "816aaf05e0617a1f87c2ab3ba3f5e8a09ee257c47dde9737047ad0e44c181a8f", func := "obelus/obeluslaw45.HyphenateOrders", spec := "hyphenateOrders", inPlace := ["internal/abi.NoEscape", "internal/bytealg.CountString", "internal/bytealg.IndexByteString", "internal/bytealg.IndexString", "internal/bytealg.MakeNoZero"], named := ["unicode/utf8.first", "unicode/utf8.acceptRanges", "internal/bytealg.MaxLen"], apart := false, laid := [("unicode/utf8.acceptRanges", laid_unicode_utf8_acceptRanges), ("unicode/utf8.first", laid_unicode_utf8_first)], narrowed := true }
def HyphenateOrdersUptoSaid : Prop := hyphenateOrdersUptoRow.holds Tryd.pinned (OpenSpec.upto hyphenateOrdersSpec)

/-- 'obeluslaw45.HyphenateLevels', WHERE WHAT IT READS IS OF BULK AT MOST 1048576: true; the input reads as it did. -/
def hyphenateLevelsUptoRow : OpenClaim := { program := "ytdcdlmigagjbiaadoor", sum := "816aaf05e0617a1f87c2ab3ba3f5e8a09ee257c47dde9737047ad0e44c181a8f", func := "obelus/obeluslaw45.HyphenateLevels", spec := "hyphenateLevels", inPlace := ["internal/abi.NoEscape", "internal/bytealg.CountString", "internal/bytealg.IndexByteString", "internal/bytealg.IndexString", "internal/bytealg.MakeNoZero"], named := ["unicode/utf8.first", "unicode/utf8.acceptRanges", "internal/bytealg.MaxLen"], apart := false, laid := [("unicode/utf8.acceptRanges", laid_unicode_utf8_acceptRanges), ("unicode/utf8.first", laid_unicode_utf8_first)], narrowed := true }
def HyphenateLevelsUptoSaid : Prop := hyphenateLevelsUptoRow.holds Tryd.pinned (OpenSpec.upto hyphenateLevelsSpec)

/-- 'obeluslaw45.HyphenatePoints', WHERE WHAT IT READS IS OF BULK AT MOST 1048576: true; the input reads as it did. -/
def hyphenatePointsUptoRow : OpenClaim := { program := "ytdcdlmigagjbiaadoor", sum := "816aaf05e0617a1f87c2ab3ba3f5e8a09ee257c47dde9737047ad0e44c181a8f", func := "obelus/obeluslaw45.HyphenatePoints", spec := "hyphenatePoints", inPlace := ["internal/abi.NoEscape", "internal/bytealg.CountString", "internal/bytealg.IndexByteString", "internal/bytealg.IndexString", "internal/bytealg.MakeNoZero"], named := ["unicode/utf8.first", "unicode/utf8.acceptRanges", "internal/bytealg.MaxLen"], apart := false, laid := [("unicode/utf8.acceptRanges", laid_unicode_utf8_acceptRanges), ("unicode/utf8.first", laid_unicode_utf8_first)], narrowed := true }
def HyphenatePointsUptoSaid : Prop := hyphenatePointsUptoRow.holds Tryd.pinned (OpenSpec.upto hyphenatePointsSpec)

/-- 'obeluslaw45.HyphenateMinima', WHERE WHAT IT READS IS OF BULK AT MOST 1048576: true; the input reads as it did. -/
def hyphenateMinimaUptoRow : OpenClaim := { program := "ytdcdlmigagjbiaadoor", sum := "816aaf05e0617a1f87c2ab3ba3f5e8a09ee257c47dde9737047ad0e44c181a8f", func := "obelus/obeluslaw45.HyphenateMinima", spec := "hyphenateMinima", inPlace := ["internal/abi.NoEscape", "internal/bytealg.CountString", "internal/bytealg.IndexByteString", "internal/bytealg.IndexString", "internal/bytealg.MakeNoZero"], named := ["unicode/utf8.first", "unicode/utf8.acceptRanges", "internal/bytealg.MaxLen"], apart := false, laid := [("unicode/utf8.acceptRanges", laid_unicode_utf8_acceptRanges), ("unicode/utf8.first", laid_unicode_utf8_first)], narrowed := true }
def HyphenateMinimaUptoSaid : Prop := hyphenateMinimaUptoRow.holds Tryd.pinned (OpenSpec.upto hyphenateMinimaSpec)

/-- 'obeluslaw45.HyphenateParts', WHERE WHAT IT READS IS OF BULK AT MOST 1048576: true; the input reads as it did. -/
def hyphenatePartsUptoRow : OpenClaim := { program := "ytdcdlmigagjbiaadoor", sum := "816aaf05e0617a1f87c2ab3ba3f5e8a09ee257c47dde9737047ad0e44c181a8f", func := "obelus/obeluslaw45.HyphenateParts", spec := "hyphenateParts", inPlace := ["internal/abi.NoEscape", "internal/bytealg.CountString", "internal/bytealg.IndexByteString", "internal/bytealg.IndexString", "internal/bytealg.MakeNoZero"], named := ["unicode/utf8.first", "unicode/utf8.acceptRanges", "internal/bytealg.MaxLen"], apart := false, laid := [("unicode/utf8.acceptRanges", laid_unicode_utf8_acceptRanges), ("unicode/utf8.first", laid_unicode_utf8_first)], narrowed := true }
def HyphenatePartsUptoSaid : Prop := hyphenatePartsUptoRow.holds Tryd.pinned (OpenSpec.upto hyphenatePartsSpec)

end Rows
end Go.Proofs.YtdcdlmigagjbiaaDoor
