/-
  DERIVED. GIVEN WITH THE SEED: THE CARDS: each row of YtonicgbejmghkaaDoorRows.lean that lists a variable, with what it lists TIED to the program's text (the seventh form; the later family's looks); each row that meets fmt, with fmt's text TOLD by the authors' own Lean function (tested against real Go, not proved from fmt's source: count such statements apart). THE CARD IS WHAT COUNTS. Prove the row's statement (the work); the ties are given (YtonicgbejmghkaaDoorTie.lean); close each card by the builder's one call (the guide's Derived/Test/ToyasCard.lean, 'card_holds'). Laid BY PROGRAM, IN A SANDBOX (cutbox-door.mjs). By AI agents, Wed Nov 11 2026. No macro, syntax, notation, axiom, sorry.
-/
import Derived.Test.YtonicgbejmghkaaDoorRows
import GoSem.ClaimSeven
namespace Go.Proofs.YtonicgbejmghkaaDoor
namespace Rows

/-- THE TIED CARD OF 'sievelaw05.PartsTell'. -/
def partsTellCard : Claim7 := { stood := { row := partsTellRow, standIns := [], harness := (true, "40a8ab1b0ae656f4e32b2d8df1cdca53aec7791aae4c2d1f2cff17916b33e3d2"), looks := false }, kinds := [], alts := [], laidByText := true, laidKinds := [.data], laidTests := true, laidLooks := .later }
def PartsTellCardSaid : Prop := Claim7.holds Tryd.pinned (.plain (OpenSpec.ofChange partsTellSpec)) partsTellCard

/-- THE TIED CARD OF 'sievelaw05.PartsCut'. -/
def partsCutCard : Claim7 := { stood := { row := partsCutRow, standIns := [], harness := (true, "40a8ab1b0ae656f4e32b2d8df1cdca53aec7791aae4c2d1f2cff17916b33e3d2"), looks := false }, kinds := [], alts := [], laidByText := true, laidKinds := [.data], laidTests := true, laidLooks := .later }
def PartsCutCardSaid : Prop := Claim7.holds Tryd.pinned (.plain (OpenSpec.ofChange partsCutSpec)) partsCutCard

/-- THE TIED CARD OF 'sievelaw05.PartsMore'. -/
def partsMoreCard : Claim7 := { stood := { row := partsMoreRow, standIns := [], harness := (true, "40a8ab1b0ae656f4e32b2d8df1cdca53aec7791aae4c2d1f2cff17916b33e3d2"), looks := false }, kinds := [], alts := [], laidByText := true, laidKinds := [.data], laidTests := true, laidLooks := .later }
def PartsMoreCardSaid : Prop := Claim7.holds Tryd.pinned (.plain (OpenSpec.ofChange partsMoreSpec)) partsMoreCard

/-- THE TIED CARD OF 'sievelaw05.PartsNil'. -/
def partsNilCard : Claim7 := { stood := { row := partsNilRow, standIns := [], harness := (true, "40a8ab1b0ae656f4e32b2d8df1cdca53aec7791aae4c2d1f2cff17916b33e3d2"), looks := false }, kinds := [], alts := [], laidByText := true, laidKinds := [.data], laidTests := true, laidLooks := .later }
def PartsNilCardSaid : Prop := Claim7.holds Tryd.pinned (.plain (OpenSpec.ofChange partsNilSpec)) partsNilCard

/-- THE TIED CARD OF 'sievelaw05.PartsAgain'. -/
def partsAgainCard : Claim7 := { stood := { row := partsAgainRow, standIns := [], harness := (true, "40a8ab1b0ae656f4e32b2d8df1cdca53aec7791aae4c2d1f2cff17916b33e3d2"), looks := false }, kinds := [], alts := [], laidByText := true, laidKinds := [.data], laidTests := true, laidLooks := .later }
def PartsAgainCardSaid : Prop := Claim7.holds Tryd.pinned (.plain (OpenSpec.ofChange partsAgainSpec)) partsAgainCard

/-- THE SECOND FORM's CARD OF 'sievelaw05.PartsTell'. -/
def partsTellUptoCard : Claim7 := { stood := { row := partsTellUptoRow, standIns := [], harness := (true, "40a8ab1b0ae656f4e32b2d8df1cdca53aec7791aae4c2d1f2cff17916b33e3d2"), looks := false }, kinds := [], alts := [], laidByText := true, laidKinds := [.data], laidTests := true, laidLooks := .later }
def PartsTellUptoCardSaid : Prop := Claim7.holds Tryd.pinned (.plain (OpenSpec.upto partsTellSpec)) partsTellUptoCard

/-- THE SECOND FORM's CARD OF 'sievelaw05.PartsCut'. -/
def partsCutUptoCard : Claim7 := { stood := { row := partsCutUptoRow, standIns := [], harness := (true, "40a8ab1b0ae656f4e32b2d8df1cdca53aec7791aae4c2d1f2cff17916b33e3d2"), looks := false }, kinds := [], alts := [], laidByText := true, laidKinds := [.data], laidTests := true, laidLooks := .later }
def PartsCutUptoCardSaid : Prop := Claim7.holds Tryd.pinned (.plain (OpenSpec.upto partsCutSpec)) partsCutUptoCard

/-- THE SECOND FORM's CARD OF 'sievelaw05.PartsMore'. -/
def partsMoreUptoCard : Claim7 := { stood := { row := partsMoreUptoRow, standIns := [], harness := (true, "40a8ab1b0ae656f4e32b2d8df1cdca53aec7791aae4c2d1f2cff17916b33e3d2"), looks := false }, kinds := [], alts := [], laidByText := true, laidKinds := [.data], laidTests := true, laidLooks := .later }
def PartsMoreUptoCardSaid : Prop := Claim7.holds Tryd.pinned (.plain (OpenSpec.upto partsMoreSpec)) partsMoreUptoCard

/-- THE SECOND FORM's CARD OF 'sievelaw05.PartsNil'. -/
def partsNilUptoCard : Claim7 := { stood := { row := partsNilUptoRow, standIns := [], harness := (true, "40a8ab1b0ae656f4e32b2d8df1cdca53aec7791aae4c2d1f2cff17916b33e3d2"), looks := false }, kinds := [], alts := [], laidByText := true, laidKinds := [.data], laidTests := true, laidLooks := .later }
def PartsNilUptoCardSaid : Prop := Claim7.holds Tryd.pinned (.plain (OpenSpec.upto partsNilSpec)) partsNilUptoCard

/-- THE SECOND FORM's CARD OF 'sievelaw05.PartsAgain'. -/
def partsAgainUptoCard : Claim7 := { stood := { row := partsAgainUptoRow, standIns := [], harness := (true, "40a8ab1b0ae656f4e32b2d8df1cdca53aec7791aae4c2d1f2cff17916b33e3d2"), looks := false }, kinds := [], alts := [], laidByText := true, laidKinds := [.data], laidTests := true, laidLooks := .later }
def PartsAgainUptoCardSaid : Prop := Claim7.holds Tryd.pinned (.plain (OpenSpec.upto partsAgainSpec)) partsAgainUptoCard
end Rows
end Go.Proofs.YtonicgbejmghkaaDoor
