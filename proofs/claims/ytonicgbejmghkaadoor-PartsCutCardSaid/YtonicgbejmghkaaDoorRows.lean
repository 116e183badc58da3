/-
  NARROWER THAN 'FOR EVERY INPUT', by the rows' own cells (each row's printed sentence says how): PartsTell: laid · PartsCut: laid · PartsMore: laid · PartsNil: laid · PartsAgain: laid.
  DERIVED. THE GIVEN ROWS OF THIS SEAT. 5 by the template 'for every input the law returns true; each argument reads behind the call as it read before'; 0 by the template 'total and deterministic' (their statements: YtonicgbejmghkaaDoorTotals.lean).
  GIVEN WITH THE SEED: the statements are not yours to turn. If you find one false, say at which input.
  Laid BY PROGRAM, IN A SANDBOX (cutbox-rows.mjs): the forced cells as the released guide's own fill.sh prints them over the translation 89891999aa0e3f79… (all of the seat's roots in one cut). By AI agents, Wed Nov 11 2026. No macro, syntax, notation, axiom, sorry.
-/
import Derived.Test.YtonicgbejmghkaaDoorChecked
import GoSem.Claim
import GoSem.ClaimJoined
import GoSem.ClaimMapViews
import Derived.JoinedTies
import Derived.KernelRfl
namespace Go.Proofs.YtonicgbejmghkaaDoor
/- THE CELL 'sum', in the pinned program and in every row, IS THE sha256 OF THE DUMP (.gsa) THAT YtonicgbejmghkaaDoorProg.lean LOADS. Nothing in Lean hashes anything: it is a label: what it is worth is what the hold of that sum in a sandbox is worth. -/
noncomputable def Tryd.pinned : Pinned := { name := "ytonicgbejmghkaadoor", sum := "89891999aa0e3f79189f614b4122c00f910900318b2cdcb94d6ade0e12ef2807", checked := Tryd.checked }
namespace Rows
def none {H : Type} : Left H := { results := [], args := [] }

/- WHAT THE LISTED PACKAGE-LEVEL VARIABLES READ AS WHEN THE CALL BEGINS. Each datum BY PROGRAM (the guide's laid-datum.mjs) off the statement by which the dump's own 'gosem.cut.vars' lays the variable. In a bare row this is a premise. The card (YtonicgbejmghkaaDoorCards.lean) ties it to the program's text. -/
def laid_math_bits_deBruijn64tab {H : Type} : DataW H := .agg [.lit (.int .u8 0), .lit (.int .u8 1), .lit (.int .u8 56), .lit (.int .u8 2), .lit (.int .u8 57), .lit (.int .u8 49), .lit (.int .u8 28), .lit (.int .u8 3), .lit (.int .u8 61), .lit (.int .u8 58), .lit (.int .u8 42), .lit (.int .u8 50), .lit (.int .u8 38), .lit (.int .u8 29), .lit (.int .u8 17), .lit (.int .u8 4), .lit (.int .u8 62), .lit (.int .u8 47), .lit (.int .u8 59), .lit (.int .u8 36), .lit (.int .u8 45), .lit (.int .u8 43), .lit (.int .u8 51), .lit (.int .u8 22), .lit (.int .u8 53), .lit (.int .u8 39), .lit (.int .u8 33), .lit (.int .u8 30), .lit (.int .u8 24), .lit (.int .u8 18), .lit (.int .u8 12), .lit (.int .u8 5), .lit (.int .u8 63), .lit (.int .u8 55), .lit (.int .u8 48), .lit (.int .u8 27), .lit (.int .u8 60), .lit (.int .u8 41), .lit (.int .u8 37), .lit (.int .u8 16), .lit (.int .u8 46), .lit (.int .u8 35), .lit (.int .u8 44), .lit (.int .u8 21), .lit (.int .u8 52), .lit (.int .u8 32), .lit (.int .u8 23), .lit (.int .u8 11), .lit (.int .u8 54), .lit (.int .u8 26), .lit (.int .u8 40), .lit (.int .u8 15), .lit (.int .u8 34), .lit (.int .u8 20), .lit (.int .u8 31), .lit (.int .u8 10), .lit (.int .u8 25), .lit (.int .u8 14), .lit (.int .u8 19), .lit (.int .u8 9), .lit (.int .u8 13), .lit (.int .u8 8), .lit (.int .u8 7), .lit (.int .u8 6)]

/-- 'sievelaw05.PartsTell': WHATEVER THE INPUT: true; the input reads as it did. -/
def partsTellSpec : ChangeSpec := { name := "partsTell", fn := fun _ => fun
  | [d] => { results := [.lit (.bool true)], args := [d] }
  | _ => none }
def partsTellRow : OpenClaim := { program := "ytonicgbejmghkaadoor", sum := "89891999aa0e3f79189f614b4122c00f910900318b2cdcb94d6ade0e12ef2807", func := "sieve/sievelaw05.PartsTell", spec := "partsTell", named := ["math/bits.deBruijn64tab"], apart := false, laid := [("math/bits.deBruijn64tab", laid_math_bits_deBruijn64tab)] }
def PartsTellSaid : Prop := partsTellRow.holds Tryd.pinned (OpenSpec.ofChange partsTellSpec)

/-- ITS FALSE NEIGHBOUR: 'it returns false'. Refute it at one input. -/
def partsTellWrong : ChangeSpec := { name := "partsTell", fn := fun _ => fun
  | [d] => { results := [.lit (.bool false)], args := [d] }
  | _ => none }
def PartsTellWrongFalsely : Prop := partsTellRow.holds Tryd.pinned (OpenSpec.ofChange partsTellWrong)

/-- 'sievelaw05.PartsCut': WHATEVER THE INPUT: true; the input reads as it did. -/
def partsCutSpec : ChangeSpec := { name := "partsCut", fn := fun _ => fun
  | [d] => { results := [.lit (.bool true)], args := [d] }
  | _ => none }
def partsCutRow : OpenClaim := { program := "ytonicgbejmghkaadoor", sum := "89891999aa0e3f79189f614b4122c00f910900318b2cdcb94d6ade0e12ef2807", func := "sieve/sievelaw05.PartsCut", spec := "partsCut", named := ["math/bits.deBruijn64tab"], apart := false, laid := [("math/bits.deBruijn64tab", laid_math_bits_deBruijn64tab)] }
def PartsCutSaid : Prop := partsCutRow.holds Tryd.pinned (OpenSpec.ofChange partsCutSpec)

/-- ITS FALSE NEIGHBOUR: 'it returns false'. Refute it at one input. -/
def partsCutWrong : ChangeSpec := { name := "partsCut", fn := fun _ => fun
  | [d] => { results := [.lit (.bool false)], args := [d] }
  | _ => none }
def PartsCutWrongFalsely : Prop := partsCutRow.holds Tryd.pinned (OpenSpec.ofChange partsCutWrong)

/-- 'sievelaw05.PartsMore': WHATEVER THE INPUT: true; the input reads as it did. -/
def partsMoreSpec : ChangeSpec := { name := "partsMore", fn := fun _ => fun
  | [d1, d2] => { results := [.lit (.bool true)], args := [d1, d2] }
  | _ => none }
def partsMoreRow : OpenClaim := { program := "ytonicgbejmghkaadoor", sum := "89891999aa0e3f79189f614b4122c00f910900318b2cdcb94d6ade0e12ef2807", func := "sieve/sievelaw05.PartsMore", spec := "partsMore", named := ["math/bits.deBruijn64tab"], apart := false, laid := [("math/bits.deBruijn64tab", laid_math_bits_deBruijn64tab)] }
def PartsMoreSaid : Prop := partsMoreRow.holds Tryd.pinned (OpenSpec.ofChange partsMoreSpec)

/-- ITS FALSE NEIGHBOUR: 'it returns false'. Refute it at one input. -/
def partsMoreWrong : ChangeSpec := { name := "partsMore", fn := fun _ => fun
  | [d1, d2] => { results := [.lit (.bool false)], args := [d1, d2] }
  | _ => none }
def PartsMoreWrongFalsely : Prop := partsMoreRow.holds Tryd.pinned (OpenSpec.ofChange partsMoreWrong)

/-- 'sievelaw05.PartsNil': WHATEVER THE INPUT: true; the input reads as it did. -/
def partsNilSpec : ChangeSpec := { name := "partsNil", fn := fun _ => fun
  | [d1, d2] => { results := [.lit (.bool true)], args := [d1, d2] }
  | _ => none }
def partsNilRow : OpenClaim := { program := "ytonicgbejmghkaadoor", sum := "89891999aa0e3f79189f614b4122c00f910900318b2cdcb94d6ade0e12ef2807", func := "sieve/sievelaw05.PartsNil", spec := "partsNil", named := ["math/bits.deBruijn64tab"], apart := false, laid := [("math/bits.deBruijn64tab", laid_math_bits_deBruijn64tab)] }
def PartsNilSaid : Prop := partsNilRow.holds Tryd.pinned (OpenSpec.ofChange partsNilSpec)

/-- ITS FALSE NEIGHBOUR: 'it returns false'. Refute it at one input. -/
def partsNilWrong : ChangeSpec := { name := "partsNil", fn := fun _ => fun
  | [d1, d2] => { results := [.lit (.bool false)], args := [d1, d2] }
  | _ => none }
def PartsNilWrongFalsely : Prop := partsNilRow.holds Tryd.pinned (OpenSpec.ofChange partsNilWrong)

/-- 'sievelaw05.PartsAgain': WHATEVER THE INPUT: true; the input reads as it did. -/
def partsAgainSpec : ChangeSpec := { name := "partsAgain", fn := fun _ => fun
  | [d] => { results := [.lit (.bool true)], args := [d] }
  | _ => none }
def partsAgainRow : OpenClaim := { program := "ytonicgbejmghkaadoor", sum := "89891999aa0e3f79189f614b4122c00f910900318b2cdcb94d6ade0e12ef2807", func := "sieve/sievelaw05.PartsAgain", spec := "partsAgain", named := ["math/bits.deBruijn64tab"], apart := false, laid := [("math/bits.deBruijn64tab", laid_math_bits_deBruijn64tab)] }
def PartsAgainSaid : Prop := partsAgainRow.holds Tryd.pinned (OpenSpec.ofChange partsAgainSpec)

/-- ITS FALSE NEIGHBOUR: 'it returns false'. Refute it at one input. -/
def partsAgainWrong : ChangeSpec := { name := "partsAgain", fn := fun _ => fun
  | [d] => { results := [.lit (.bool false)], args := [d] }
  | _ => none }
def PartsAgainWrongFalsely : Prop := partsAgainRow.holds Tryd.pinned (OpenSpec.ofChange partsAgainWrong)

/- THE SECOND FORM. 'bulk': how many values and letters a reading holds, each counted each time it is reached (what is shared counts as often as it is met; a slice's spare places count too). A statement '..UptoSaid' is the law's where the arguments, and the package variables that the reading takes, are together of bulk at most 1048576: NARROWER than '..Said'. Prove '..Said' where nothing that the law and all that it calls make is longer than what came in: it says more and counts as full. Else prove '..UptoSaid'. A law counts once. -/
mutual
def uptoBulk {H : Type} : DataW H → Nat
  | .lit (.string bytes) => bytes.length + 1
  | .lit _ => 1
  | .nil => 1
  | .ptr d => uptoBulk d + 1
  | .slice elems spare => uptoBulkAll elems + uptoBulkAll spare + 1
  | .agg parts => uptoBulkAll parts + 1
  | .iface _ d => uptoBulk d + 1
  | .map entries => uptoBulkEntries entries + 1
  | .held _ => 1
def uptoBulkAll {H : Type} : List (DataW H) → Nat
  | [] => 0
  | d :: r => uptoBulk d + uptoBulkAll r
def uptoBulkEntries {H : Type} : List (Lit × DataW H) → Nat
  | [] => 0
  | x :: r => uptoBulkEntry x + uptoBulkEntries r
def uptoBulkEntry {H : Type} : Lit × DataW H → Nat
  | (.string bytes, d) => bytes.length + uptoBulk d + 1
  | (_, d) => uptoBulk d + 1
 end
def uptoSmall : (H : Type) → List (DataW H) → Bool := fun _ ds => decide (uptoBulkAll ds ≤ 1048576)
def OpenSpec.upto (s : _root_.Go.ChangeSpec) : _root_.Go.OpenSpec := { _root_.Go.OpenSpec.ofChange s with cond := some uptoSmall }

/-- 'sievelaw05.PartsTell', WHERE WHAT IT READS IS OF BULK AT MOST 1048576: true; the input reads as it did. -/
def partsTellUptoRow : OpenClaim := { program := "ytonicgbejmghkaadoor", sum := "89891999aa0e3f79189f614b4122c00f910900318b2cdcb94d6ade0e12ef2807", func := "sieve/sievelaw05.PartsTell", spec := "partsTell", named := ["math/bits.deBruijn64tab"], apart := false, laid := [("math/bits.deBruijn64tab", laid_math_bits_deBruijn64tab)], narrowed := true }
def PartsTellUptoSaid : Prop := partsTellUptoRow.holds Tryd.pinned (OpenSpec.upto partsTellSpec)

/-- 'sievelaw05.PartsCut', WHERE WHAT IT READS IS OF BULK AT MOST 1048576: true; the input reads as it did. -/
def partsCutUptoRow : OpenClaim := { program := "ytonicgbejmghkaadoor", sum := "89891999aa0e3f79189f614b4122c00f910900318b2cdcb94d6ade0e12ef2807", func := "sieve/sievelaw05.PartsCut", spec := "partsCut", named := ["math/bits.deBruijn64tab"], apart := false, laid := [("math/bits.deBruijn64tab", laid_math_bits_deBruijn64tab)], narrowed := true }
def PartsCutUptoSaid : Prop := partsCutUptoRow.holds Tryd.pinned (OpenSpec.upto partsCutSpec)

/-- 'sievelaw05.PartsMore', WHERE WHAT IT READS IS OF BULK AT MOST 1048576: true; the input reads as it did. -/
def partsMoreUptoRow : OpenClaim := { program := "ytonicgbejmghkaadoor", sum := "89891999aa0e3f79189f614b4122c00f910900318b2cdcb94d6ade0e12ef2807", func := "sieve/sievelaw05.PartsMore", spec := "partsMore", named := ["math/bits.deBruijn64tab"], apart := false, laid := [("math/bits.deBruijn64tab", laid_math_bits_deBruijn64tab)], narrowed := true }
def PartsMoreUptoSaid : Prop := partsMoreUptoRow.holds Tryd.pinned (OpenSpec.upto partsMoreSpec)

/-- 'sievelaw05.PartsNil', WHERE WHAT IT READS IS OF BULK AT MOST 1048576: true; the input reads as it did. -/
def partsNilUptoRow : OpenClaim := { program := "ytonicgbejmghkaadoor", sum := "89891999aa0e3f79189f614b4122c00f910900318b2cdcb94d6ade0e12ef2807", func := "sieve/sievelaw05.PartsNil", spec := "partsNil", named := ["math/bits.deBruijn64tab"], apart := false, laid := [("math/bits.deBruijn64tab", laid_math_bits_deBruijn64tab)], narrowed := true }
def PartsNilUptoSaid : Prop := partsNilUptoRow.holds Tryd.pinned (OpenSpec.upto partsNilSpec)

/-- 'sievelaw05.PartsAgain', WHERE WHAT IT READS IS OF BULK AT MOST 1048576: true; the input reads as it did. -/
def partsAgainUptoRow : OpenClaim := { program := "ytonicgbejmghkaadoor", sum := "89891999aa0e3f79189f614b4122c00f910900318b2cdcb94d6ade0e12ef2807", func := "sieve/sievelaw05.PartsAgain", spec := "partsAgain", named := ["math/bits.deBruijn64tab"], apart := false, laid := [("math/bits.deBruijn64tab", laid_math_bits_deBruijn64tab)], narrowed := true }
def PartsAgainUptoSaid : Prop := partsAgainUptoRow.holds Tryd.pinned (OpenSpec.upto partsAgainSpec)

end Rows
end Go.Proofs.YtonicgbejmghkaaDoor
