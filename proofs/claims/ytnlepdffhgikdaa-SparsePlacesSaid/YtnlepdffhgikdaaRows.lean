/-
  No cell of these rows narrows 'for every input' (looked for: loops, veiled, ifaces, maps, wideKeys, modest, calm, conditions, laid).
  DERIVED. THE GIVEN ROWS OF THIS SEAT. 5 by the template 'for every input the law returns true; each argument reads behind the call as it read before'; 0 by the template 'total and deterministic' (their statements: YtnlepdffhgikdaaTotals.lean).
  GIVEN WITH THE SEED: the statements are not yours to turn. If you find one false, say at which input.
  Laid BY PROGRAM, IN A SANDBOX (cutbox-rows.mjs): the forced cells as the released guide's own fill.sh prints them over the translation 16af3c21df576b53… (all of the seat's roots in one cut). By AI agents, Wed Nov 11 2026. No macro, syntax, notation, axiom, sorry.
-/
import Derived.Test.YtnlepdffhgikdaaChecked
import GoSem.Claim
import GoSem.ClaimJoined
import GoSem.ClaimMapViews
import Derived.JoinedTies
import Derived.KernelRfl
namespace Go.Proofs.Ytnlepdffhgikdaa
/- THE CELL 'sum', in the pinned program and in every row, IS THE sha256 OF THE DUMP (.gsa) THAT YtnlepdffhgikdaaProg.lean LOADS. Nothing in Lean hashes anything: it is a label: what it is worth is what the hold of that sum in a sandbox is worth. -/
noncomputable def Try.pinned : Pinned := { name := "ytnlepdffhgikdaa", sum := "16af3c21df576b53e57da5f5b0ff9e54ecd0a30ed1cd8b048ef64d6ad5577c70", checked := Try.checked }
namespace Rows
def none {H : Type} : Left H := { results := [], args := [] }

/-- 'sievelaw03.SparsePlays': WHATEVER THE INPUT: true; the input reads as it did. -/
def sparsePlaysSpec : ChangeSpec := { name := "sparsePlays", fn := fun _ => fun
  | [d1, d2] => { results := [.lit (.bool true)], args := [d1, d2] }
  | _ => none }
def sparsePlaysRow : OpenClaim := { program := "ytnlepdffhgikdaa", sum := "16af3c21df576b53e57da5f5b0ff9e54ecd0a30ed1cd8b048ef64d6ad5577c70", func := "sieve/sievelaw03.SparsePlays", spec := "sparsePlays", recurses := true, apart := false }
def SparsePlaysSaid : Prop := sparsePlaysRow.holds Try.pinned (OpenSpec.ofChange sparsePlaysSpec)

/-- ITS FALSE NEIGHBOUR: 'it returns false'. Refute it at one input. -/
def sparsePlaysWrong : ChangeSpec := { name := "sparsePlays", fn := fun _ => fun
  | [d1, d2] => { results := [.lit (.bool false)], args := [d1, d2] }
  | _ => none }
def SparsePlaysWrongFalsely : Prop := sparsePlaysRow.holds Try.pinned (OpenSpec.ofChange sparsePlaysWrong)

/-- 'sievelaw03.SparseNew': WHATEVER THE INPUT: true; the input reads as it did. -/
def sparseNewSpec : ChangeSpec := { name := "sparseNew", fn := fun _ => fun
  | [d1, d2, d3] => { results := [.lit (.bool true)], args := [d1, d2, d3] }
  | _ => none }
def sparseNewRow : OpenClaim := { program := "ytnlepdffhgikdaa", sum := "16af3c21df576b53e57da5f5b0ff9e54ecd0a30ed1cd8b048ef64d6ad5577c70", func := "sieve/sievelaw03.SparseNew", spec := "sparseNew", recurses := true, apart := false }
def SparseNewSaid : Prop := sparseNewRow.holds Try.pinned (OpenSpec.ofChange sparseNewSpec)

/-- ITS FALSE NEIGHBOUR: 'it returns false'. Refute it at one input. -/
def sparseNewWrong : ChangeSpec := { name := "sparseNew", fn := fun _ => fun
  | [d1, d2, d3] => { results := [.lit (.bool false)], args := [d1, d2, d3] }
  | _ => none }
def SparseNewWrongFalsely : Prop := sparseNewRow.holds Try.pinned (OpenSpec.ofChange sparseNewWrong)

/-- 'sievelaw03.SparsePlaces': WHATEVER THE INPUT: true; the input reads as it did. -/
def sparsePlacesSpec : ChangeSpec := { name := "sparsePlaces", fn := fun _ => fun
  | [d1, d2] => { results := [.lit (.bool true)], args := [d1, d2] }
  | _ => none }
def sparsePlacesRow : OpenClaim := { program := "ytnlepdffhgikdaa", sum := "16af3c21df576b53e57da5f5b0ff9e54ecd0a30ed1cd8b048ef64d6ad5577c70", func := "sieve/sievelaw03.SparsePlaces", spec := "sparsePlaces", recurses := true, apart := false }
def SparsePlacesSaid : Prop := sparsePlacesRow.holds Try.pinned (OpenSpec.ofChange sparsePlacesSpec)

/-- ITS FALSE NEIGHBOUR: 'it returns false'. Refute it at one input. -/
def sparsePlacesWrong : ChangeSpec := { name := "sparsePlaces", fn := fun _ => fun
  | [d1, d2] => { results := [.lit (.bool false)], args := [d1, d2] }
  | _ => none }
def SparsePlacesWrongFalsely : Prop := sparsePlacesRow.holds Try.pinned (OpenSpec.ofChange sparsePlacesWrong)

/-- 'sievelaw03.SparseNil': WHATEVER THE INPUT: true; the input reads as it did. -/
def sparseNilSpec : ChangeSpec := { name := "sparseNil", fn := fun _ => fun
  | [d] => { results := [.lit (.bool true)], args := [d] }
  | _ => none }
def sparseNilRow : OpenClaim := { program := "ytnlepdffhgikdaa", sum := "16af3c21df576b53e57da5f5b0ff9e54ecd0a30ed1cd8b048ef64d6ad5577c70", func := "sieve/sievelaw03.SparseNil", spec := "sparseNil", recurses := true, apart := false }
def SparseNilSaid : Prop := sparseNilRow.holds Try.pinned (OpenSpec.ofChange sparseNilSpec)

/-- ITS FALSE NEIGHBOUR: 'it returns false'. Refute it at one input. -/
def sparseNilWrong : ChangeSpec := { name := "sparseNil", fn := fun _ => fun
  | [d] => { results := [.lit (.bool false)], args := [d] }
  | _ => none }
def SparseNilWrongFalsely : Prop := sparseNilRow.holds Try.pinned (OpenSpec.ofChange sparseNilWrong)

/-- 'sievelaw03.SparseMeter': WHATEVER THE INPUT: true; the input reads as it did. -/
def sparseMeterSpec : ChangeSpec := { name := "sparseMeter", fn := fun _ => fun
  | [d1, d2] => { results := [.lit (.bool true)], args := [d1, d2] }
  | _ => none }
def sparseMeterRow : OpenClaim := { program := "ytnlepdffhgikdaa", sum := "16af3c21df576b53e57da5f5b0ff9e54ecd0a30ed1cd8b048ef64d6ad5577c70", func := "sieve/sievelaw03.SparseMeter", spec := "sparseMeter", recurses := true, apart := false }
def SparseMeterSaid : Prop := sparseMeterRow.holds Try.pinned (OpenSpec.ofChange sparseMeterSpec)

/-- ITS FALSE NEIGHBOUR: 'it returns false'. Refute it at one input. -/
def sparseMeterWrong : ChangeSpec := { name := "sparseMeter", fn := fun _ => fun
  | [d1, d2] => { results := [.lit (.bool false)], args := [d1, d2] }
  | _ => none }
def SparseMeterWrongFalsely : Prop := sparseMeterRow.holds Try.pinned (OpenSpec.ofChange sparseMeterWrong)

/- THE SECOND FORM. 'bulk': how many values and letters a reading holds, each counted each time it is reached (what is shared counts as often as it is met; a slice's spare places count too). A statement '..UptoSaid' is the law's where the arguments, and the package variables that the reading takes, are together of bulk at most 1048576: NARROWER than '..Said'. Prove '..Said' where nothing that the law and all that it calls make is longer than what came in: it says more and counts as full. Else prove '..UptoSaid'. A law counts once. -/
mutual
def uptoBulk {H : Type} : DataW H → Nat
  | .lit (.string bytes) => bytes.length + 1
  | .lit _ => 1
  | .nil => 1
  | .ptr d => uptoBulk d + 1
  | .slice elems spare => uptoBulkAll elems + uptoBulkAll spare + 1
  | .agg parts => uptoBulkAll parts + 1
  | .iface _ d => uptoBulk d + 1
  | .map entries => uptoBulkEntries entries + 1
  | .held _ => 1
def uptoBulkAll {H : Type} : List (DataW H) → Nat
  | [] => 0
  | d :: r => uptoBulk d + uptoBulkAll r
def uptoBulkEntries {H : Type} : List (Lit × DataW H) → Nat
  | [] => 0
  | x :: r => uptoBulkEntry x + uptoBulkEntries r
def uptoBulkEntry {H : Type} : Lit × DataW H → Nat
  | (.string bytes, d) => bytes.length + uptoBulk d + 1
  | (_, d) => uptoBulk d + 1
 end
def uptoSmall : (H : Type) → List (DataW H) → Bool := fun _ ds => decide (uptoBulkAll ds ≤ 1048576)
def OpenSpec.upto (s : _root_.Go.ChangeSpec) : _root_.Go.OpenSpec := { _root_.Go.OpenSpec.ofChange s with cond := some uptoSmall }

/-- 'sievelaw03.SparsePlays', WHERE WHAT IT READS IS OF BULK AT MOST 1048576: true; the input reads as it did. -/
def sparsePlaysUptoRow : OpenClaim := { program := "ytnlepdffhgikdaa", sum := "16af3c21df576b53e57da5f5b0ff9e54ecd0a30ed1cd8b048ef64d6ad5577c70", func := "sieve/sievelaw03.SparsePlays", spec := "sparsePlays", recurses := true, apart := false, narrowed := true }
def SparsePlaysUptoSaid : Prop := sparsePlaysUptoRow.holds Try.pinned (OpenSpec.upto sparsePlaysSpec)

/-- 'sievelaw03.SparseNew', WHERE WHAT IT READS IS OF BULK AT MOST 1048576: true; the input reads as it did. -/
def sparseNewUptoRow : OpenClaim := { program := "ytnlepdffhgikdaa", sum := "16af3c21df576b53e57da5f5b0ff9e54ecd0a30ed1cd8b048ef64d6ad5577c70", func := "sieve/sievelaw03.SparseNew", spec := "sparseNew", recurses := true, apart := false, narrowed := true }
def SparseNewUptoSaid : Prop := sparseNewUptoRow.holds Try.pinned (OpenSpec.upto sparseNewSpec)

/-- 'sievelaw03.SparsePlaces', WHERE WHAT IT READS IS OF BULK AT MOST 1048576: true; the input reads as it did. -/
def sparsePlacesUptoRow : OpenClaim := { program := "ytnlepdffhgikdaa", sum := "16af3c21df576b53e57da5f5b0ff9e54ecd0a30ed1cd8b048ef64d6ad5577c70", func := "sieve/sievelaw03.SparsePlaces", spec := "sparsePlaces", recurses := true, apart := false, narrowed := true }
def SparsePlacesUptoSaid : Prop := sparsePlacesUptoRow.holds Try.pinned (OpenSpec.upto sparsePlacesSpec)

/-- 'sievelaw03.SparseNil', WHERE WHAT IT READS IS OF BULK AT MOST 1048576: true; the input reads as it did. -/
def sparseNilUptoRow : OpenClaim := { program := "ytnlepdffhgikdaa", sum := "16af3c21df576b53e57da5f5b0ff9e54ecd0a30ed1cd8b048ef64d6ad5577c70", func := "sieve/sievelaw03.SparseNil", spec := "sparseNil", recurses := true, apart := false, narrowed := true }
def SparseNilUptoSaid : Prop := sparseNilUptoRow.holds Try.pinned (OpenSpec.upto sparseNilSpec)

/-- 'sievelaw03.SparseMeter', WHERE WHAT IT READS IS OF BULK AT MOST 1048576: true; the input reads as it did. -/
def sparseMeterUptoRow : OpenClaim := { program := "ytnlepdffhgikdaa", sum := "16af3c21df576b53e57da5f5b0ff9e54ecd0a30ed1cd8b048ef64d6ad5577c70", func := "sieve/sievelaw03.SparseMeter", spec := "sparseMeter", recurses := true, apart := false, narrowed := true }
def SparseMeterUptoSaid : Prop := sparseMeterUptoRow.holds Try.pinned (OpenSpec.upto sparseMeterSpec)

end Rows
end Go.Proofs.Ytnlepdffhgikdaa
