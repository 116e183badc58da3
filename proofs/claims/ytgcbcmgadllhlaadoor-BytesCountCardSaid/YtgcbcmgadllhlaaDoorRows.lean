/-
  NARROWER THAN 'FOR EVERY INPUT', by the rows' own cells (each row's printed sentence says how): BytesTell: laid · BytesRanges: laid · BytesTexts: laid · BytesCount: laid · BytesLaws: laid.
  DERIVED. THE GIVEN ROWS OF THIS SEAT. 5 by the template 'for every input the law returns true; each argument reads behind the call as it read before'; 0 by the template 'total and deterministic' (their statements: YtgcbcmgadllhlaaDoorTotals.lean).
  GIVEN WITH THE SEED: the statements are not yours to turn. If you find one false, say at which input.
  Laid BY PROGRAM, IN A SANDBOX (cutbox-rows.mjs): the forced cells as the released guide's own fill.sh prints them over the translation 701a1492809e1180… (all of the seat's roots in one cut). By AI agents, Wed Nov 11 2026. No macro, syntax, notation, axiom, sorry.
-/
import Derived.Test.YtgcbcmgadllhlaaDoorChecked
import GoSem.Claim
import GoSem.ClaimJoined
import GoSem.ClaimMapViews
import Derived.JoinedTies
import Derived.KernelRfl
namespace Go.Proofs.YtgcbcmgadllhlaaDoor
/- THE CELL 'sum', in the pinned program and in every row, IS THE sha256 OF THE DUMP (.gsa) THAT YtgcbcmgadllhlaaDoorProg.lean LOADS. Nothing in Lean hashes anything: it is a label: what it is worth is what the hold of that sum in a sandbox is worth. -/
noncomputable def Tryd.pinned : Pinned := { name := "ytgcbcmgadllhlaadoor", sum := "701a1492809e1180aed92fd3806ce03b296e280ac47d1f785740b0a5e2a6a92e", checked := Tryd.checked }
namespace Rows
def none {H : Type} : Left H := { results := [], args := [] }

/- WHAT THE LISTED PACKAGE-LEVEL VARIABLES READ AS WHEN THE CALL BEGINS. Each datum BY PROGRAM (the guide's laid-datum.mjs) off the statement by which the dump's own 'gosem.cut.vars' lays the variable. In a bare row this is a premise. The card (YtgcbcmgadllhlaaDoorCards.lean) ties it to the program's text. -/
def laid_math_bits_deBruijn64tab {H : Type} : DataW H := .agg [.lit (.int .u8 0), .lit (.int .u8 1), .lit (.int .u8 56), .lit (.int .u8 2), .lit (.int .u8 57), .lit (.int .u8 49), .lit (.int .u8 28), .lit (.int .u8 3), .lit (.int .u8 61), .lit (.int .u8 58), .lit (.int .u8 42), .lit (.int .u8 50), .lit (.int .u8 38), .lit (.int .u8 29), .lit (.int .u8 17), .lit (.int .u8 4), .lit (.int .u8 62), .lit (.int .u8 47), .lit (.int .u8 59), .lit (.int .u8 36), .lit (.int .u8 45), .lit (.int .u8 43), .lit (.int .u8 51), .lit (.int .u8 22), .lit (.int .u8 53), .lit (.int .u8 39), .lit (.int .u8 33), .lit (.int .u8 30), .lit (.int .u8 24), .lit (.int .u8 18), .lit (.int .u8 12), .lit (.int .u8 5), .lit (.int .u8 63), .lit (.int .u8 55), .lit (.int .u8 48), .lit (.int .u8 27), .lit (.int .u8 60), .lit (.int .u8 41), .lit (.int .u8 37), .lit (.int .u8 16), .lit (.int .u8 46), .lit (.int .u8 35), .lit (.int .u8 44), .lit (.int .u8 21), .lit (.int .u8 52), .lit (.int .u8 32), .lit (.int .u8 23), .lit (.int .u8 11), .lit (.int .u8 54), .lit (.int .u8 26), .lit (.int .u8 40), .lit (.int .u8 15), .lit (.int .u8 34), .lit (.int .u8 20), .lit (.int .u8 31), .lit (.int .u8 10), .lit (.int .u8 25), .lit (.int .u8 14), .lit (.int .u8 19), .lit (.int .u8 9), .lit (.int .u8 13), .lit (.int .u8 8), .lit (.int .u8 7), .lit (.int .u8 6)]

/-- 'sievelaw04.BytesTell': WHATEVER THE INPUT: true; the input reads as it did. -/
def bytesTellSpec : ChangeSpec := { name := "bytesTell", fn := fun _ => fun
  | [d1, d2] => { results := [.lit (.bool true)], args := [d1, d2] }
  | _ => none }
def bytesTellRow : OpenClaim := { program := "ytgcbcmgadllhlaadoor", sum := "701a1492809e1180aed92fd3806ce03b296e280ac47d1f785740b0a5e2a6a92e", func := "sieve/sievelaw04.BytesTell", spec := "bytesTell", inPlace := ["internal/bytealg.IndexByteString", "internal/abi.NoEscape"], named := ["math/bits.deBruijn64tab"], apart := false, laid := [("math/bits.deBruijn64tab", laid_math_bits_deBruijn64tab)] }
def BytesTellSaid : Prop := bytesTellRow.holds Tryd.pinned (OpenSpec.ofChange bytesTellSpec)

/-- ITS FALSE NEIGHBOUR: 'it returns false'. Refute it at one input. -/
def bytesTellWrong : ChangeSpec := { name := "bytesTell", fn := fun _ => fun
  | [d1, d2] => { results := [.lit (.bool false)], args := [d1, d2] }
  | _ => none }
def BytesTellWrongFalsely : Prop := bytesTellRow.holds Tryd.pinned (OpenSpec.ofChange bytesTellWrong)

/-- 'sievelaw04.BytesRanges': WHATEVER THE INPUT: true; the input reads as it did. -/
def bytesRangesSpec : ChangeSpec := { name := "bytesRanges", fn := fun _ => fun
  | [d1, d2, d3, d4] => { results := [.lit (.bool true)], args := [d1, d2, d3, d4] }
  | _ => none }
def bytesRangesRow : OpenClaim := { program := "ytgcbcmgadllhlaadoor", sum := "701a1492809e1180aed92fd3806ce03b296e280ac47d1f785740b0a5e2a6a92e", func := "sieve/sievelaw04.BytesRanges", spec := "bytesRanges", inPlace := ["internal/bytealg.IndexByteString", "internal/abi.NoEscape"], named := ["math/bits.deBruijn64tab"], apart := false, laid := [("math/bits.deBruijn64tab", laid_math_bits_deBruijn64tab)] }
def BytesRangesSaid : Prop := bytesRangesRow.holds Tryd.pinned (OpenSpec.ofChange bytesRangesSpec)

/-- ITS FALSE NEIGHBOUR: 'it returns false'. Refute it at one input. -/
def bytesRangesWrong : ChangeSpec := { name := "bytesRanges", fn := fun _ => fun
  | [d1, d2, d3, d4] => { results := [.lit (.bool false)], args := [d1, d2, d3, d4] }
  | _ => none }
def BytesRangesWrongFalsely : Prop := bytesRangesRow.holds Tryd.pinned (OpenSpec.ofChange bytesRangesWrong)

/-- 'sievelaw04.BytesTexts': WHATEVER THE INPUT: true; the input reads as it did. -/
def bytesTextsSpec : ChangeSpec := { name := "bytesTexts", fn := fun _ => fun
  | [d1, d2, d3, d4] => { results := [.lit (.bool true)], args := [d1, d2, d3, d4] }
  | _ => none }
def bytesTextsRow : OpenClaim := { program := "ytgcbcmgadllhlaadoor", sum := "701a1492809e1180aed92fd3806ce03b296e280ac47d1f785740b0a5e2a6a92e", func := "sieve/sievelaw04.BytesTexts", spec := "bytesTexts", inPlace := ["internal/bytealg.IndexByteString", "internal/abi.NoEscape"], named := ["math/bits.deBruijn64tab"], apart := false, laid := [("math/bits.deBruijn64tab", laid_math_bits_deBruijn64tab)] }
def BytesTextsSaid : Prop := bytesTextsRow.holds Tryd.pinned (OpenSpec.ofChange bytesTextsSpec)

/-- ITS FALSE NEIGHBOUR: 'it returns false'. Refute it at one input. -/
def bytesTextsWrong : ChangeSpec := { name := "bytesTexts", fn := fun _ => fun
  | [d1, d2, d3, d4] => { results := [.lit (.bool false)], args := [d1, d2, d3, d4] }
  | _ => none }
def BytesTextsWrongFalsely : Prop := bytesTextsRow.holds Tryd.pinned (OpenSpec.ofChange bytesTextsWrong)

/-- 'sievelaw04.BytesCount': WHATEVER THE INPUT: true; the input reads as it did. -/
def bytesCountSpec : ChangeSpec := { name := "bytesCount", fn := fun _ => fun
  | [d] => { results := [.lit (.bool true)], args := [d] }
  | _ => none }
def bytesCountRow : OpenClaim := { program := "ytgcbcmgadllhlaadoor", sum := "701a1492809e1180aed92fd3806ce03b296e280ac47d1f785740b0a5e2a6a92e", func := "sieve/sievelaw04.BytesCount", spec := "bytesCount", inPlace := ["internal/bytealg.IndexByteString", "internal/abi.NoEscape"], named := ["math/bits.deBruijn64tab"], apart := false, laid := [("math/bits.deBruijn64tab", laid_math_bits_deBruijn64tab)] }
def BytesCountSaid : Prop := bytesCountRow.holds Tryd.pinned (OpenSpec.ofChange bytesCountSpec)

/-- ITS FALSE NEIGHBOUR: 'it returns false'. Refute it at one input. -/
def bytesCountWrong : ChangeSpec := { name := "bytesCount", fn := fun _ => fun
  | [d] => { results := [.lit (.bool false)], args := [d] }
  | _ => none }
def BytesCountWrongFalsely : Prop := bytesCountRow.holds Tryd.pinned (OpenSpec.ofChange bytesCountWrong)

/-- 'sievelaw04.BytesLaws': WHATEVER THE INPUT: true; the input reads as it did. -/
def bytesLawsSpec : ChangeSpec := { name := "bytesLaws", fn := fun _ => fun
  | [d1, d2, d3] => { results := [.lit (.bool true)], args := [d1, d2, d3] }
  | _ => none }
def bytesLawsRow : OpenClaim := { program := "ytgcbcmgadllhlaadoor", sum := "701a1492809e1180aed92fd3806ce03b296e280ac47d1f785740b0a5e2a6a92e", func := "sieve/sievelaw04.BytesLaws", spec := "bytesLaws", inPlace := ["internal/bytealg.IndexByteString", "internal/abi.NoEscape"], named := ["math/bits.deBruijn64tab"], apart := false, laid := [("math/bits.deBruijn64tab", laid_math_bits_deBruijn64tab)] }
def BytesLawsSaid : Prop := bytesLawsRow.holds Tryd.pinned (OpenSpec.ofChange bytesLawsSpec)

/-- ITS FALSE NEIGHBOUR: 'it returns false'. Refute it at one input. -/
def bytesLawsWrong : ChangeSpec := { name := "bytesLaws", fn := fun _ => fun
  | [d1, d2, d3] => { results := [.lit (.bool false)], args := [d1, d2, d3] }
  | _ => none }
def BytesLawsWrongFalsely : Prop := bytesLawsRow.holds Tryd.pinned (OpenSpec.ofChange bytesLawsWrong)

/- THE SECOND FORM. 'bulk': how many values and letters a reading holds, each counted each time it is reached (what is shared counts as often as it is met; a slice's spare places count too). A statement '..UptoSaid' is the law's where the arguments, and the package variables that the reading takes, are together of bulk at most 1048576: NARROWER than '..Said'. Prove '..Said' where nothing that the law and all that it calls make is longer than what came in: it says more and counts as full. Else prove '..UptoSaid'. A law counts once. -/
mutual
def uptoBulk {H : Type} : DataW H → Nat
  | .lit (.string bytes) => bytes.length + 1
  | .lit _ => 1
  | .nil => 1
  | .ptr d => uptoBulk d + 1
  | .slice elems spare => uptoBulkAll elems + uptoBulkAll spare + 1
  | .agg parts => uptoBulkAll parts + 1
  | .iface _ d => uptoBulk d + 1
  | .map entries => uptoBulkEntries entries + 1
  | .held _ => 1
def uptoBulkAll {H : Type} : List (DataW H) → Nat
  | [] => 0
  | d :: r => uptoBulk d + uptoBulkAll r
def uptoBulkEntries {H : Type} : List (Lit × DataW H) → Nat
  | [] => 0
  | x :: r => uptoBulkEntry x + uptoBulkEntries r
def uptoBulkEntry {H : Type} : Lit × DataW H → Nat
  | (.string bytes, d) => bytes.length + uptoBulk d + 1
  | (_, d) => uptoBulk d + 1
 end
def uptoSmall : (H : Type) → List (DataW H) → Bool := fun _ ds => decide (uptoBulkAll ds ≤ 1048576)
def OpenSpec.upto (s : _root_.Go.ChangeSpec) : _root_.Go.OpenSpec := { _root_.Go.OpenSpec.ofChange s with cond := some uptoSmall }

/-- 'sievelaw04.BytesTell', WHERE WHAT IT READS IS OF BULK AT MOST 1048576: true; the input reads as it did. -/
def bytesTellUptoRow : OpenClaim := { program := "ytgcbcmgadllhlaadoor", sum := "701a1492809e1180aed92fd3806ce03b296e280ac47d1f785740b0a5e2a6a92e", func := "sieve/sievelaw04.BytesTell", spec := "bytesTell", inPlace := ["internal/bytealg.IndexByteString", "internal/abi.NoEscape"], named := ["math/bits.deBruijn64tab"], apart := false, laid := [("math/bits.deBruijn64tab", laid_math_bits_deBruijn64tab)], narrowed := true }
def BytesTellUptoSaid : Prop := bytesTellUptoRow.holds Tryd.pinned (OpenSpec.upto bytesTellSpec)

/-- 'sievelaw04.BytesRanges', WHERE WHAT IT READS IS OF BULK AT MOST 1048576: true; the input reads as it did. -/
def bytesRangesUptoRow : OpenClaim := { program := "ytgcbcmgadllhlaadoor", sum := "701a1492809e1180aed92fd3806ce03b296e280ac47d1f785740b0a5e2a6a92e", func := "sieve/sievelaw04.BytesRanges", spec := "bytesRanges", inPlace := ["internal/bytealg.IndexByteString", "internal/abi.NoEscape"], named := ["math/bits.deBruijn64tab"], apart := false, laid := [("math/bits.deBruijn64tab", laid_math_bits_deBruijn64tab)], narrowed := true }
def BytesRangesUptoSaid : Prop := bytesRangesUptoRow.holds Tryd.pinned (OpenSpec.upto bytesRangesSpec)

/-- 'sievelaw04.BytesTexts', WHERE WHAT IT READS IS OF BULK AT MOST 1048576: true; the input reads as it did. -/
def bytesTextsUptoRow : OpenClaim := { program := "ytgcbcmgadllhlaadoor", sum := "701a1492809e1180aed92fd3806ce03b296e280ac47d1f785740b0a5e2a6a92e", func := "sieve/sievelaw04.BytesTexts", spec := "bytesTexts", inPlace := ["internal/bytealg.IndexByteString", "internal/abi.NoEscape"], named := ["math/bits.deBruijn64tab"], apart := false, laid := [("math/bits.deBruijn64tab", laid_math_bits_deBruijn64tab)], narrowed := true }
def BytesTextsUptoSaid : Prop := bytesTextsUptoRow.holds Tryd.pinned (OpenSpec.upto bytesTextsSpec)

/-- 'sievelaw04.BytesCount', WHERE WHAT IT READS IS OF BULK AT MOST 1048576: true; the input reads as it did. -/
def bytesCountUptoRow : OpenClaim := { program := "ytgcbcmgadllhlaadoor", sum := "701a1492809e1180aed92fd3806ce03b296e280ac47d1f785740b0a5e2a6a92e", func := "sieve/sievelaw04.BytesCount", spec := "bytesCount", inPlace := ["internal/bytealg.IndexByteString", "internal/abi.NoEscape"], named := ["math/bits.deBruijn64tab"], apart := false, laid := [("math/bits.deBruijn64tab", laid_math_bits_deBruijn64tab)], narrowed := true }
def BytesCountUptoSaid : Prop := bytesCountUptoRow.holds Tryd.pinned (OpenSpec.upto bytesCountSpec)

/-- 'sievelaw04.BytesLaws', WHERE WHAT IT READS IS OF BULK AT MOST 1048576: true; the input reads as it did. -/
def bytesLawsUptoRow : OpenClaim := { program := "ytgcbcmgadllhlaadoor", sum := "701a1492809e1180aed92fd3806ce03b296e280ac47d1f785740b0a5e2a6a92e", func := "sieve/sievelaw04.BytesLaws", spec := "bytesLaws", inPlace := ["internal/bytealg.IndexByteString", "internal/abi.NoEscape"], named := ["math/bits.deBruijn64tab"], apart := false, laid := [("math/bits.deBruijn64tab", laid_math_bits_deBruijn64tab)], narrowed := true }
def BytesLawsUptoSaid : Prop := bytesLawsUptoRow.holds Tryd.pinned (OpenSpec.upto bytesLawsSpec)

end Rows
end Go.Proofs.YtgcbcmgadllhlaaDoor
