/-
  DERIVED. GIVEN WITH THE SEED: THE CARDS: each row of YtigegicbfmjpbaaDoorRows.lean that lists a variable, with what it lists TIED to the program's text (the seventh form; the later family's looks); each row that meets fmt, with fmt's text TOLD by the authors' own Lean function (tested against real Go, not proved from fmt's source: count such statements apart). THE CARD IS WHAT COUNTS. Prove the row's statement (the work); the ties are given (YtigegicbfmjpbaaDoorTie.lean); close each card by the builder's one call (the guide's Derived/Test/ToyasCard.lean, 'card_holds'). Laid BY PROGRAM, IN A SANDBOX (cutbox-door.mjs). By AI agents, Wed Nov 11 2026. No macro, syntax, notation, axiom, sorry.
-/
import Derived.Test.YtigegicbfmjpbaaDoorRows
import GoSem.ClaimSeven
namespace Go.Proofs.YtigegicbfmjpbaaDoor
namespace Rows

/-- THE TIED CARD OF 'laws.FnExactTold'. -/
def fnExactToldCard : Claim7 := { stood := { row := fnExactToldRow, standIns := [], harness := (true, "1489178880a2829384ff99ea2384030b7c5e43945b20e5db49ad6a7aaebb58c4"), looks := true }, kinds := [], alts := [], laidByText := true, laidKinds := [.data, .data, .data], laidTests := true, laidLooks := .later }
def FnExactToldCardSaid : Prop := Claim7.holds Tryd.pinned (.plain (OpenSpec.ofChange fnExactToldSpec)) fnExactToldCard

/-- THE TIED CARD OF 'laws.FnExactReadNumber'. -/
def fnExactReadNumberCard : Claim7 := { stood := { row := fnExactReadNumberRow, standIns := [], harness := (true, "1489178880a2829384ff99ea2384030b7c5e43945b20e5db49ad6a7aaebb58c4"), looks := true }, kinds := [], alts := [], laidByText := true, laidKinds := [.data, .data, .data, .sentinel, .sentinel], laidTests := true, laidLooks := .later }
def FnExactReadNumberCardSaid : Prop := Claim7.holds Tryd.pinned (.plain (OpenSpec.ofChange fnExactReadNumberSpec)) fnExactReadNumberCard

/-- THE TIED CARD OF 'laws.FnExactObsText'. -/
def fnExactObsTextCard : Claim7 := { stood := { row := fnExactObsTextRow, standIns := [], harness := (true, "1489178880a2829384ff99ea2384030b7c5e43945b20e5db49ad6a7aaebb58c4"), looks := true }, kinds := [], alts := [], laidByText := true, laidKinds := [.data, .data, .data], laidTests := true, laidLooks := .later }
def FnExactObsTextCardSaid : Prop := Claim7.holds Tryd.pinned (.plain (OpenSpec.ofChange fnExactObsTextSpec)) fnExactObsTextCard

/-- THE TIED CARD OF 'laws.FnExactReadSoil'. -/
def fnExactReadSoilCard : Claim7 := { stood := { row := fnExactReadSoilRow, standIns := [], harness := (true, "1489178880a2829384ff99ea2384030b7c5e43945b20e5db49ad6a7aaebb58c4"), looks := true }, kinds := [], alts := [], laidByText := true, laidKinds := [.data, .data, .data, .data, .sentinel, .sentinel, .pinned], laidTests := true, laidLooks := .later }
def FnExactReadSoilCardSaid : Prop := Claim7.holds Tryd.pinned (.plain (OpenSpec.ofChange fnExactReadSoilSpec)) fnExactReadSoilCard

/-- THE TIED CARD OF 'laws.FnExactRequestText'. -/
def fnExactRequestTextCard : Claim7 := { stood := { row := fnExactRequestTextRow, standIns := [], harness := (true, "1489178880a2829384ff99ea2384030b7c5e43945b20e5db49ad6a7aaebb58c4"), looks := true }, kinds := [], alts := [], laidByText := true, laidKinds := [.data, .data, .data], laidTests := true, laidLooks := .later }
def FnExactRequestTextCardSaid : Prop := Claim7.holds Tryd.pinned (.plain (OpenSpec.ofChange fnExactRequestTextSpec)) fnExactRequestTextCard

/-- THE SECOND FORM's CARD OF 'laws.FnExactTold'. -/
def fnExactToldUptoCard : Claim7 := { stood := { row := fnExactToldUptoRow, standIns := [], harness := (true, "1489178880a2829384ff99ea2384030b7c5e43945b20e5db49ad6a7aaebb58c4"), looks := true }, kinds := [], alts := [], laidByText := true, laidKinds := [.data, .data, .data], laidTests := true, laidLooks := .later }
def FnExactToldUptoCardSaid : Prop := Claim7.holds Tryd.pinned (.plain (OpenSpec.upto fnExactToldSpec)) fnExactToldUptoCard

/-- THE SECOND FORM's CARD OF 'laws.FnExactReadNumber'. -/
def fnExactReadNumberUptoCard : Claim7 := { stood := { row := fnExactReadNumberUptoRow, standIns := [], harness := (true, "1489178880a2829384ff99ea2384030b7c5e43945b20e5db49ad6a7aaebb58c4"), looks := true }, kinds := [], alts := [], laidByText := true, laidKinds := [.data, .data, .data, .sentinel, .sentinel], laidTests := true, laidLooks := .later }
def FnExactReadNumberUptoCardSaid : Prop := Claim7.holds Tryd.pinned (.plain (OpenSpec.upto fnExactReadNumberSpec)) fnExactReadNumberUptoCard

/-- THE SECOND FORM's CARD OF 'laws.FnExactObsText'. -/
def fnExactObsTextUptoCard : Claim7 := { stood := { row := fnExactObsTextUptoRow, standIns := [], harness := (true, "1489178880a2829384ff99ea2384030b7c5e43945b20e5db49ad6a7aaebb58c4"), looks := true }, kinds := [], alts := [], laidByText := true, laidKinds := [.data, .data, .data], laidTests := true, laidLooks := .later }
def FnExactObsTextUptoCardSaid : Prop := Claim7.holds Tryd.pinned (.plain (OpenSpec.upto fnExactObsTextSpec)) fnExactObsTextUptoCard

/-- THE SECOND FORM's CARD OF 'laws.FnExactReadSoil'. -/
def fnExactReadSoilUptoCard : Claim7 := { stood := { row := fnExactReadSoilUptoRow, standIns := [], harness := (true, "1489178880a2829384ff99ea2384030b7c5e43945b20e5db49ad6a7aaebb58c4"), looks := true }, kinds := [], alts := [], laidByText := true, laidKinds := [.data, .data, .data, .data, .sentinel, .sentinel, .pinned], laidTests := true, laidLooks := .later }
def FnExactReadSoilUptoCardSaid : Prop := Claim7.holds Tryd.pinned (.plain (OpenSpec.upto fnExactReadSoilSpec)) fnExactReadSoilUptoCard

/-- THE SECOND FORM's CARD OF 'laws.FnExactRequestText'. -/
def fnExactRequestTextUptoCard : Claim7 := { stood := { row := fnExactRequestTextUptoRow, standIns := [], harness := (true, "1489178880a2829384ff99ea2384030b7c5e43945b20e5db49ad6a7aaebb58c4"), looks := true }, kinds := [], alts := [], laidByText := true, laidKinds := [.data, .data, .data], laidTests := true, laidLooks := .later }
def FnExactRequestTextUptoCardSaid : Prop := Claim7.holds Tryd.pinned (.plain (OpenSpec.upto fnExactRequestTextSpec)) fnExactRequestTextUptoCard
end Rows
end Go.Proofs.YtigegicbfmjpbaaDoor
