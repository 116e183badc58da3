/-
  DERIVED. GIVEN WITH THE SEED: THE CARDS: each row of YtgcbcmgadllhlaaDoorRows.lean that lists a variable, with what it lists TIED to the program's text (the seventh form; the later family's looks); each row that meets fmt, with fmt's text TOLD by the authors' own Lean function (tested against real Go, not proved from fmt's source: count such statements apart). THE CARD IS WHAT COUNTS. Prove the row's statement (the work); the ties are given (YtgcbcmgadllhlaaDoorTie.lean); close each card by the builder's one call (the guide's Derived/Test/ToyasCard.lean, 'card_holds'). Laid BY PROGRAM, IN A SANDBOX (cutbox-door.mjs). By AI agents, Wed Nov 11 2026. No macro, syntax, notation, axiom, sorry.
-/
import Derived.Test.YtgcbcmgadllhlaaDoorRows
import GoSem.ClaimSeven
namespace Go.Proofs.YtgcbcmgadllhlaaDoor
namespace Rows

/-- THE TIED CARD OF 'sievelaw04.BytesTell'. -/
def bytesTellCard : Claim7 := { stood := { row := bytesTellRow, standIns := [], harness := (true, "5c0208dd756d884928146a406e7ebfce6487e86886bf2fc6011e7be03116248d"), looks := false }, kinds := [], alts := [], laidByText := true, laidKinds := [.data], laidTests := true, laidLooks := .later }
def BytesTellCardSaid : Prop := Claim7.holds Tryd.pinned (.plain (OpenSpec.ofChange bytesTellSpec)) bytesTellCard

/-- THE TIED CARD OF 'sievelaw04.BytesRanges'. -/
def bytesRangesCard : Claim7 := { stood := { row := bytesRangesRow, standIns := [], harness := (true, "5c0208dd756d884928146a406e7ebfce6487e86886bf2fc6011e7be03116248d"), looks := false }, kinds := [], alts := [], laidByText := true, laidKinds := [.data], laidTests := true, laidLooks := .later }
def BytesRangesCardSaid : Prop := Claim7.holds Tryd.pinned (.plain (OpenSpec.ofChange bytesRangesSpec)) bytesRangesCard

/-- THE TIED CARD OF 'sievelaw04.BytesTexts'. -/
def bytesTextsCard : Claim7 := { stood := { row := bytesTextsRow, standIns := [], harness := (true, "5c0208dd756d884928146a406e7ebfce6487e86886bf2fc6011e7be03116248d"), looks := false }, kinds := [], alts := [], laidByText := true, laidKinds := [.data], laidTests := true, laidLooks := .later }
def BytesTextsCardSaid : Prop := Claim7.holds Tryd.pinned (.plain (OpenSpec.ofChange bytesTextsSpec)) bytesTextsCard

/-- THE TIED CARD OF 'sievelaw04.BytesCount'. -/
def bytesCountCard : Claim7 := { stood := { row := bytesCountRow, standIns := [], harness := (true, "5c0208dd756d884928146a406e7ebfce6487e86886bf2fc6011e7be03116248d"), looks := false }, kinds := [], alts := [], laidByText := true, laidKinds := [.data], laidTests := true, laidLooks := .later }
def BytesCountCardSaid : Prop := Claim7.holds Tryd.pinned (.plain (OpenSpec.ofChange bytesCountSpec)) bytesCountCard

/-- THE TIED CARD OF 'sievelaw04.BytesLaws'. -/
def bytesLawsCard : Claim7 := { stood := { row := bytesLawsRow, standIns := [], harness := (true, "5c0208dd756d884928146a406e7ebfce6487e86886bf2fc6011e7be03116248d"), looks := false }, kinds := [], alts := [], laidByText := true, laidKinds := [.data], laidTests := true, laidLooks := .later }
def BytesLawsCardSaid : Prop := Claim7.holds Tryd.pinned (.plain (OpenSpec.ofChange bytesLawsSpec)) bytesLawsCard

/-- THE SECOND FORM's CARD OF 'sievelaw04.BytesTell'. -/
def bytesTellUptoCard : Claim7 := { stood := { row := bytesTellUptoRow, standIns := [], harness := (true, "5c0208dd756d884928146a406e7ebfce6487e86886bf2fc6011e7be03116248d"), looks := false }, kinds := [], alts := [], laidByText := true, laidKinds := [.data], laidTests := true, laidLooks := .later }
def BytesTellUptoCardSaid : Prop := Claim7.holds Tryd.pinned (.plain (OpenSpec.upto bytesTellSpec)) bytesTellUptoCard

/-- THE SECOND FORM's CARD OF 'sievelaw04.BytesRanges'. -/
def bytesRangesUptoCard : Claim7 := { stood := { row := bytesRangesUptoRow, standIns := [], harness := (true, "5c0208dd756d884928146a406e7ebfce6487e86886bf2fc6011e7be03116248d"), looks := false }, kinds := [], alts := [], laidByText := true, laidKinds := [.data], laidTests := true, laidLooks := .later }
def BytesRangesUptoCardSaid : Prop := Claim7.holds Tryd.pinned (.plain (OpenSpec.upto bytesRangesSpec)) bytesRangesUptoCard

/-- THE SECOND FORM's CARD OF 'sievelaw04.BytesTexts'. -/
def bytesTextsUptoCard : Claim7 := { stood := { row := bytesTextsUptoRow, standIns := [], harness := (true, "5c0208dd756d884928146a406e7ebfce6487e86886bf2fc6011e7be03116248d"), looks := false }, kinds := [], alts := [], laidByText := true, laidKinds := [.data], laidTests := true, laidLooks := .later }
def BytesTextsUptoCardSaid : Prop := Claim7.holds Tryd.pinned (.plain (OpenSpec.upto bytesTextsSpec)) bytesTextsUptoCard

/-- THE SECOND FORM's CARD OF 'sievelaw04.BytesCount'. -/
def bytesCountUptoCard : Claim7 := { stood := { row := bytesCountUptoRow, standIns := [], harness := (true, "5c0208dd756d884928146a406e7ebfce6487e86886bf2fc6011e7be03116248d"), looks := false }, kinds := [], alts := [], laidByText := true, laidKinds := [.data], laidTests := true, laidLooks := .later }
def BytesCountUptoCardSaid : Prop := Claim7.holds Tryd.pinned (.plain (OpenSpec.upto bytesCountSpec)) bytesCountUptoCard

/-- THE SECOND FORM's CARD OF 'sievelaw04.BytesLaws'. -/
def bytesLawsUptoCard : Claim7 := { stood := { row := bytesLawsUptoRow, standIns := [], harness := (true, "5c0208dd756d884928146a406e7ebfce6487e86886bf2fc6011e7be03116248d"), looks := false }, kinds := [], alts := [], laidByText := true, laidKinds := [.data], laidTests := true, laidLooks := .later }
def BytesLawsUptoCardSaid : Prop := Claim7.holds Tryd.pinned (.plain (OpenSpec.upto bytesLawsSpec)) bytesLawsUptoCard
end Rows
end Go.Proofs.YtgcbcmgadllhlaaDoor
