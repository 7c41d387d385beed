/-
  DERIVED. GIVEN WITH THE SEED: THE CARDS: each row of YtdcdlmigagjbiaaDoorRows.lean that lists a variable, with what it lists TIED to the program's text (the seventh form; the later family's looks); each row that meets fmt, with fmt's text TOLD by the authors' own Lean function (tested against real Go, not proved from fmt's source: count such statements apart). THE CARD IS WHAT COUNTS. Prove the row's statement (the work); the ties are given (YtdcdlmigagjbiaaDoorTie.lean); close each card by the builder's one call (the guide's Derived/Test/ToyasCard.lean, 'card_holds'). Laid BY PROGRAM, IN A SANDBOX (cutbox-door.mjs). By AI agents, Wed Nov 11 2026. No macro, syntax, notation, axiom, sorry.
-/
import Derived.Test.YtdcdlmigagjbiaaDoorRows
import GoSem.ClaimSeven
namespace Go.Proofs.YtdcdlmigagjbiaaDoor
namespace Rows

/-- THE TIED CARD OF 'obeluslaw45.HyphenateNil'. -/
def hyphenateNilCard : Claim7 := { stood := { row := hyphenateNilRow, standIns := [], harness := (true, "fba2131d7a15f3be87d67e4474fac7760f1cb5a91cb72e40c21f64045a1d8cfe"), looks := false }, kinds := [], alts := [], laidByText := true, laidKinds := [.data, .pinned], laidTests := true, laidLooks := .later }
def HyphenateNilCardSaid : Prop := Claim7.holds Tryd.pinned (.plain (OpenSpec.ofChange hyphenateNilSpec)) hyphenateNilCard

/-- THE TIED CARD OF 'obeluslaw45.HyphenatePrints'. -/
def hyphenatePrintsCard : Claim7 := { stood := { row := hyphenatePrintsRow, standIns := [], harness := (true, "fba2131d7a15f3be87d67e4474fac7760f1cb5a91cb72e40c21f64045a1d8cfe"), looks := false }, kinds := [], alts := [], laidByText := true, laidKinds := [.data, .pinned], laidTests := true, laidLooks := .later }
def HyphenatePrintsCardSaid : Prop := Claim7.holds Tryd.pinned (.plain (OpenSpec.ofChange hyphenatePrintsSpec)) hyphenatePrintsCard

/-- THE TIED CARD OF 'obeluslaw45.HyphenateParses'. -/
def hyphenateParsesCard : Claim7 := { stood := { row := hyphenateParsesRow, standIns := [], harness := (true, "fba2131d7a15f3be87d67e4474fac7760f1cb5a91cb72e40c21f64045a1d8cfe"), looks := false }, kinds := [], alts := [], laidByText := true, laidKinds := [.data, .pinned], laidTests := true, laidLooks := .later }
def HyphenateParsesCardSaid : Prop := Claim7.holds Tryd.pinned (.plain (OpenSpec.ofChange hyphenateParsesSpec)) hyphenateParsesCard

/-- THE TIED CARD OF 'obeluslaw45.HyphenateNew'. -/
def hyphenateNewCard : Claim7 := { stood := { row := hyphenateNewRow, standIns := [], harness := (true, "fba2131d7a15f3be87d67e4474fac7760f1cb5a91cb72e40c21f64045a1d8cfe"), looks := false }, kinds := [], alts := [], laidByText := true, laidKinds := [.data, .pinned], laidTests := true, laidLooks := .later }
def HyphenateNewCardSaid : Prop := Claim7.holds Tryd.pinned (.plain (OpenSpec.ofChange hyphenateNewSpec)) hyphenateNewCard

/-- THE TIED CARD OF 'obeluslaw45.HyphenateOrders'. -/
def hyphenateOrdersCard : Claim7 := { stood := { row := hyphenateOrdersRow, standIns := [], harness := (true, "fba2131d7a15f3be87d67e4474fac7760f1cb5a91cb72e40c21f64045a1d8cfe"), looks := false }, kinds := [], alts := [], laidByText := true, laidKinds := [.data, .pinned], laidTests := true, laidLooks := .later }
def HyphenateOrdersCardSaid : Prop := Claim7.holds Tryd.pinned (.plain (OpenSpec.ofChange hyphenateOrdersSpec)) hyphenateOrdersCard

/-- THE TIED CARD OF 'obeluslaw45.HyphenateLevels'. -/
def hyphenateLevelsCard : Claim7 := { stood := { row := hyphenateLevelsRow, standIns := [], harness := (true, "fba2131d7a15f3be87d67e4474fac7760f1cb5a91cb72e40c21f64045a1d8cfe"), looks := false }, kinds := [], alts := [], laidByText := true, laidKinds := [.data, .pinned], laidTests := true, laidLooks := .later }
def HyphenateLevelsCardSaid : Prop := Claim7.holds Tryd.pinned (.plain (OpenSpec.ofChange hyphenateLevelsSpec)) hyphenateLevelsCard

/-- THE TIED CARD OF 'obeluslaw45.HyphenatePoints'. -/
def hyphenatePointsCard : Claim7 := { stood := { row := hyphenatePointsRow, standIns := [], harness := (true, "fba2131d7a15f3be87d67e4474fac7760f1cb5a91cb72e40c21f64045a1d8cfe"), looks := false }, kinds := [], alts := [], laidByText := true, laidKinds := [.data, .pinned], laidTests := true, laidLooks := .later }
def HyphenatePointsCardSaid : Prop := Claim7.holds Tryd.pinned (.plain (OpenSpec.ofChange hyphenatePointsSpec)) hyphenatePointsCard

/-- THE TIED CARD OF 'obeluslaw45.HyphenateMinima'. -/
def hyphenateMinimaCard : Claim7 := { stood := { row := hyphenateMinimaRow, standIns := [], harness := (true, "fba2131d7a15f3be87d67e4474fac7760f1cb5a91cb72e40c21f64045a1d8cfe"), looks := false }, kinds := [], alts := [], laidByText := true, laidKinds := [.data, .pinned], laidTests := true, laidLooks := .later }
def HyphenateMinimaCardSaid : Prop := Claim7.holds Tryd.pinned (.plain (OpenSpec.ofChange hyphenateMinimaSpec)) hyphenateMinimaCard

/-- THE TIED CARD OF 'obeluslaw45.HyphenateParts'. -/
def hyphenatePartsCard : Claim7 := { stood := { row := hyphenatePartsRow, standIns := [], harness := (true, "fba2131d7a15f3be87d67e4474fac7760f1cb5a91cb72e40c21f64045a1d8cfe"), looks := false }, kinds := [], alts := [], laidByText := true, laidKinds := [.data, .pinned], laidTests := true, laidLooks := .later }
def HyphenatePartsCardSaid : Prop := Claim7.holds Tryd.pinned (.plain (OpenSpec.ofChange hyphenatePartsSpec)) hyphenatePartsCard

/-- THE SECOND FORM's CARD OF 'obeluslaw45.HyphenateNil'. -/
def hyphenateNilUptoCard : Claim7 := { stood := { row := hyphenateNilUptoRow, standIns := [], harness := (true, "fba2131d7a15f3be87d67e4474fac7760f1cb5a91cb72e40c21f64045a1d8cfe"), looks := false }, kinds := [], alts := [], laidByText := true, laidKinds := [.data, .pinned], laidTests := true, laidLooks := .later }
def HyphenateNilUptoCardSaid : Prop := Claim7.holds Tryd.pinned (.plain (OpenSpec.upto hyphenateNilSpec)) hyphenateNilUptoCard

/-- THE SECOND FORM's CARD OF 'obeluslaw45.HyphenatePrints'. -/
def hyphenatePrintsUptoCard : Claim7 := { stood := { row := hyphenatePrintsUptoRow, standIns := [], harness := (true, "fba2131d7a15f3be87d67e4474fac7760f1cb5a91cb72e40c21f64045a1d8cfe"), looks := false }, kinds := [], alts := [], laidByText := true, laidKinds := [.data, .pinned], laidTests := true, laidLooks := .later }
def HyphenatePrintsUptoCardSaid : Prop := Claim7.holds Tryd.pinned (.plain (OpenSpec.upto hyphenatePrintsSpec)) hyphenatePrintsUptoCard

/-- THE SECOND FORM's CARD OF 'obeluslaw45.HyphenateParses'. -/
def hyphenateParsesUptoCard : Claim7 := { stood := { row := hyphenateParsesUptoRow, standIns := [], harness := (true, "fba2131d7a15f3be87d67e4474fac7760f1cb5a91cb72e40c21f64045a1d8cfe"), looks := false }, kinds := [], alts := [], laidByText := true, laidKinds := [.data, .pinned], laidTests := true, laidLooks := .later }
def HyphenateParsesUptoCardSaid : Prop := Claim7.holds Tryd.pinned (.plain (OpenSpec.upto hyphenateParsesSpec)) hyphenateParsesUptoCard

/-- THE SECOND FORM's CARD OF 'obeluslaw45.HyphenateNew'. -/
def hyphenateNewUptoCard : Claim7 := { stood := { row := hyphenateNewUptoRow, standIns := [], harness := (true, "fba2131d7a15f3be87d67e4474fac7760f1cb5a91cb72e40c21f64045a1d8cfe"), looks := false }, kinds := [], alts := [], laidByText := true, laidKinds := [.data, .pinned], laidTests := true, laidLooks := .later }
def HyphenateNewUptoCardSaid : Prop := Claim7.holds Tryd.pinned (.plain (OpenSpec.upto hyphenateNewSpec)) hyphenateNewUptoCard

/-- THE SECOND FORM's CARD OF 'obeluslaw45.HyphenateOrders'. -/
def hyphenateOrdersUptoCard : Claim7 := { stood := { row := hyphenateOrdersUptoRow, standIns := [], harness := (true, "fba2131d7a15f3be87d67e4474fac7760f1cb5a91cb72e40c21f64045a1d8cfe"), looks := false }, kinds := [], alts := [], laidByText := true, laidKinds := [.data, .pinned], laidTests := true, laidLooks := .later }
def HyphenateOrdersUptoCardSaid : Prop := Claim7.holds Tryd.pinned (.plain (OpenSpec.upto hyphenateOrdersSpec)) hyphenateOrdersUptoCard

/-- THE SECOND FORM's CARD OF 'obeluslaw45.HyphenateLevels'. -/
def hyphenateLevelsUptoCard : Claim7 := { stood := { row := hyphenateLevelsUptoRow, standIns := [], harness := (true, "fba2131d7a15f3be87d67e4474fac7760f1cb5a91cb72e40c21f64045a1d8cfe"), looks := false }, kinds := [], alts := [], laidByText := true, laidKinds := [.data, .pinned], laidTests := true, laidLooks := .later }
def HyphenateLevelsUptoCardSaid : Prop := Claim7.holds Tryd.pinned (.plain (OpenSpec.upto hyphenateLevelsSpec)) hyphenateLevelsUptoCard

/-- THE SECOND FORM's CARD OF 'obeluslaw45.HyphenatePoints'. -/
def hyphenatePointsUptoCard : Claim7 := { stood := { row := hyphenatePointsUptoRow, standIns := [], harness := (true, "fba2131d7a15f3be87d67e4474fac7760f1cb5a91cb72e40c21f64045a1d8cfe"), looks := false }, kinds := [], alts := [], laidByText := true, laidKinds := [.data, .pinned], laidTests := true, laidLooks := .later }
def HyphenatePointsUptoCardSaid : Prop := Claim7.holds Tryd.pinned (.plain (OpenSpec.upto hyphenatePointsSpec)) hyphenatePointsUptoCard

/-- THE SECOND FORM's CARD OF 'obeluslaw45.HyphenateMinima'. -/
def hyphenateMinimaUptoCard : Claim7 := { stood := { row := hyphenateMinimaUptoRow, standIns := [], harness := (true, "fba2131d7a15f3be87d67e4474fac7760f1cb5a91cb72e40c21f64045a1d8cfe"), looks := false }, kinds := [], alts := [], laidByText := true, laidKinds := [.data, .pinned], laidTests := true, laidLooks := .later }
def HyphenateMinimaUptoCardSaid : Prop := Claim7.holds Tryd.pinned (.plain (OpenSpec.upto hyphenateMinimaSpec)) hyphenateMinimaUptoCard

/-- THE SECOND FORM's CARD OF 'obeluslaw45.HyphenateParts'. -/
def hyphenatePartsUptoCard : Claim7 := { stood := { row := hyphenatePartsUptoRow, standIns := [], harness := (true, "fba2131d7a15f3be87d67e4474fac7760f1cb5a91cb72e40c21f64045a1d8cfe"), looks := false }, kinds := [], alts := [], laidByText := true, laidKinds := [.data, .pinned], laidTests := true, laidLooks := .later }
def HyphenatePartsUptoCardSaid : Prop := Claim7.holds Tryd.pinned (.plain (OpenSpec.upto hyphenatePartsSpec)) hyphenatePartsUptoCard
end Rows
end Go.Proofs.YtdcdlmigagjbiaaDoor
