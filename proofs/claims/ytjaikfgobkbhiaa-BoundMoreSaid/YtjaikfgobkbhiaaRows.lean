/-
  No cell of these rows narrows 'for every input' (looked for: loops, veiled, ifaces, maps, wideKeys, modest, calm, conditions, laid).
  DERIVED. THE GIVEN ROWS OF THIS SEAT. 3 by the template 'for every input the law returns true; each argument reads behind the call as it read before'; 0 by the template 'total and deterministic' (their statements: YtjaikfgobkbhiaaTotals.lean).
  GIVEN WITH THE SEED: the statements are not yours to turn. If you find one false, say at which input.
  Laid BY PROGRAM, IN A SANDBOX (cutbox-rows.mjs): the forced cells as the released guide's own fill.sh prints them over the translation fb52143c6d09a199… (all of the seat's roots in one cut). By AI agents, Wed Nov 11 2026. No macro, syntax, notation, axiom, sorry.
-/
import Derived.Test.YtjaikfgobkbhiaaChecked
import GoSem.Claim
import GoSem.ClaimJoined
import GoSem.ClaimMapViews
import Derived.JoinedTies
import Derived.KernelRfl
namespace Go.Proofs.Ytjaikfgobkbhiaa
/- THE CELL 'sum', in the pinned program and in every row, IS THE sha256 OF THE DUMP (.gsa) THAT YtjaikfgobkbhiaaProg.lean LOADS. Nothing in Lean hashes anything: it is a label: what it is worth is what the hold of that sum in a sandbox is worth. -/
noncomputable def Try.pinned : Pinned := { name := "ytjaikfgobkbhiaa", sum := "fb52143c6d09a1998923865d1d4c9f46dbae9f8e20aff4253f41fcb41db08a49", checked := Try.checked }
namespace Rows
def none {H : Type} : Left H := { results := [], args := [] }

/-- 'sievelaw23.BoundTells': WHATEVER THE INPUT: true; the input reads as it did. -/
def boundTellsSpec : ChangeSpec := { name := "boundTells", fn := fun _ => fun
  | [d1, d2, d3, d4, d5, d6] => { results := [.lit (.bool true)], args := [d1, d2, d3, d4, d5, d6] }
  | _ => none }
def boundTellsRow : OpenClaim := { program := "ytjaikfgobkbhiaa", sum := "fb52143c6d09a1998923865d1d4c9f46dbae9f8e20aff4253f41fcb41db08a49", func := "sieve/sievelaw23.BoundTells", spec := "boundTells", apart := false }
def BoundTellsSaid : Prop := boundTellsRow.holds Try.pinned (OpenSpec.ofChange boundTellsSpec)

/-- ITS FALSE NEIGHBOUR: 'it returns false'. Refute it at one input. -/
def boundTellsWrong : ChangeSpec := { name := "boundTells", fn := fun _ => fun
  | [d1, d2, d3, d4, d5, d6] => { results := [.lit (.bool false)], args := [d1, d2, d3, d4, d5, d6] }
  | _ => none }
def BoundTellsWrongFalsely : Prop := boundTellsRow.holds Try.pinned (OpenSpec.ofChange boundTellsWrong)

/-- 'sievelaw23.BoundQuota': WHATEVER THE INPUT: true; the input reads as it did. -/
def boundQuotaSpec : ChangeSpec := { name := "boundQuota", fn := fun _ => fun
  | [d1, d2, d3, d4, d5, d6] => { results := [.lit (.bool true)], args := [d1, d2, d3, d4, d5, d6] }
  | _ => none }
def boundQuotaRow : OpenClaim := { program := "ytjaikfgobkbhiaa", sum := "fb52143c6d09a1998923865d1d4c9f46dbae9f8e20aff4253f41fcb41db08a49", func := "sieve/sievelaw23.BoundQuota", spec := "boundQuota", apart := false }
def BoundQuotaSaid : Prop := boundQuotaRow.holds Try.pinned (OpenSpec.ofChange boundQuotaSpec)

/-- ITS FALSE NEIGHBOUR: 'it returns false'. Refute it at one input. -/
def boundQuotaWrong : ChangeSpec := { name := "boundQuota", fn := fun _ => fun
  | [d1, d2, d3, d4, d5, d6] => { results := [.lit (.bool false)], args := [d1, d2, d3, d4, d5, d6] }
  | _ => none }
def BoundQuotaWrongFalsely : Prop := boundQuotaRow.holds Try.pinned (OpenSpec.ofChange boundQuotaWrong)

/-- 'sievelaw23.BoundMore': WHATEVER THE INPUT: true; the input reads as it did. -/
def boundMoreSpec : ChangeSpec := { name := "boundMore", fn := fun _ => fun
  | [d1, d2, d3, d4, d5, d6] => { results := [.lit (.bool true)], args := [d1, d2, d3, d4, d5, d6] }
  | _ => none }
def boundMoreRow : OpenClaim := { program := "ytjaikfgobkbhiaa", sum := "fb52143c6d09a1998923865d1d4c9f46dbae9f8e20aff4253f41fcb41db08a49", func := "sieve/sievelaw23.BoundMore", spec := "boundMore", unfollowed := true, recurses := true, apart := false }
def BoundMoreSaid : Prop := boundMoreRow.holds Try.pinned (OpenSpec.ofChange boundMoreSpec)

/-- ITS FALSE NEIGHBOUR: 'it returns false'. Refute it at one input. -/
def boundMoreWrong : ChangeSpec := { name := "boundMore", fn := fun _ => fun
  | [d1, d2, d3, d4, d5, d6] => { results := [.lit (.bool false)], args := [d1, d2, d3, d4, d5, d6] }
  | _ => none }
def BoundMoreWrongFalsely : Prop := boundMoreRow.holds Try.pinned (OpenSpec.ofChange boundMoreWrong)

/- THE SECOND FORM. 'bulk': how many values and letters a reading holds, each counted each time it is reached (what is shared counts as often as it is met; a slice's spare places count too). A statement '..UptoSaid' is the law's where the arguments, and the package variables that the reading takes, are together of bulk at most 1048576: NARROWER than '..Said'. Prove '..Said' where nothing that the law and all that it calls make is longer than what came in: it says more and counts as full. Else prove '..UptoSaid'. A law counts once. -/
mutual
def uptoBulk {H : Type} : DataW H → Nat
  | .lit (.string bytes) => bytes.length + 1
  | .lit _ => 1
  | .nil => 1
  | .ptr d => uptoBulk d + 1
  | .slice elems spare => uptoBulkAll elems + uptoBulkAll spare + 1
  | .agg parts => uptoBulkAll parts + 1
  | .iface _ d => uptoBulk d + 1
  | .map entries => uptoBulkEntries entries + 1
  | .held _ => 1
def uptoBulkAll {H : Type} : List (DataW H) → Nat
  | [] => 0
  | d :: r => uptoBulk d + uptoBulkAll r
def uptoBulkEntries {H : Type} : List (Lit × DataW H) → Nat
  | [] => 0
  | x :: r => uptoBulkEntry x + uptoBulkEntries r
def uptoBulkEntry {H : Type} : Lit × DataW H → Nat
  | (.string bytes, d) => bytes.length + uptoBulk d + 1
  | (_, d) => uptoBulk d + 1
 end
def uptoSmall : (H : Type) → List (DataW H) → Bool := fun _ ds => decide (uptoBulkAll ds ≤ 1048576)
def OpenSpec.upto (s : _root_.Go.ChangeSpec) : _root_.Go.OpenSpec := { _root_.Go.OpenSpec.ofChange s with cond := some uptoSmall }

/-- 'sievelaw23.BoundTells', WHERE WHAT IT READS IS OF BULK AT MOST 1048576: true; the input reads as it did. -/
def boundTellsUptoRow : OpenClaim := { program := "ytjaikfgobkbhiaa", sum := "fb52143c6d09a1998923865d1d4c9f46dbae9f8e20aff4253f41fcb41db08a49", func := "sieve/sievelaw23.BoundTells", spec := "boundTells", apart := false, narrowed := true }
def BoundTellsUptoSaid : Prop := boundTellsUptoRow.holds Try.pinned (OpenSpec.upto boundTellsSpec)

/-- 'sievelaw23.BoundQuota', WHERE WHAT IT READS IS OF BULK AT MOST 1048576: true; the input reads as it did. -/
def boundQuotaUptoRow : OpenClaim := { program := "ytjaikfgobkbhiaa", sum := "fb52143c6d09a1998923865d1d4c9f46dbae9f8e20aff4253f41fcb41db08a49", func := "sieve/sievelaw23.BoundQuota", spec := "boundQuota", apart := false, narrowed := true }
def BoundQuotaUptoSaid : Prop := boundQuotaUptoRow.holds Try.pinned (OpenSpec.upto boundQuotaSpec)

/-- 'sievelaw23.BoundMore', WHERE WHAT IT READS IS OF BULK AT MOST 1048576: true; the input reads as it did. -/
def boundMoreUptoRow : OpenClaim := { program := "ytjaikfgobkbhiaa", sum := "fb52143c6d09a1998923865d1d4c9f46dbae9f8e20aff4253f41fcb41db08a49", func := "sieve/sievelaw23.BoundMore", spec := "boundMore", unfollowed := true, recurses := true, apart := false, narrowed := true }
def BoundMoreUptoSaid : Prop := boundMoreUptoRow.holds Try.pinned (OpenSpec.upto boundMoreSpec)

end Rows
end Go.Proofs.Ytjaikfgobkbhiaa
