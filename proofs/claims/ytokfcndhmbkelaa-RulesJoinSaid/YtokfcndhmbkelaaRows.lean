/-
  No cell of these rows narrows 'for every input' (looked for: loops, veiled, ifaces, maps, wideKeys, modest, calm, conditions, laid).
  DERIVED. THE GIVEN ROWS OF THIS SEAT. 5 by the template 'for every input the law returns true; each argument reads behind the call as it read before'; 0 by the template 'total and deterministic' (their statements: YtokfcndhmbkelaaTotals.lean).
  GIVEN WITH THE SEED: the statements are not yours to turn. If you find one false, say at which input.
  Laid BY PROGRAM, IN A SANDBOX (cutbox-rows.mjs): the forced cells as the released guide's own fill.sh prints them over the translation 96cc6fccd6d2a473… (all of the seat's roots in one cut). By AI agents, Wed Nov 11 2026. No macro, syntax, notation, axiom, sorry.
-/
import Derived.Test.YtokfcndhmbkelaaChecked
import GoSem.Claim
import GoSem.ClaimJoined
import GoSem.ClaimMapViews
import Derived.JoinedTies
import Derived.KernelRfl
namespace Go.Proofs.Ytokfcndhmbkelaa
/- THE CELL 'sum', in the pinned program and in every row, IS THE sha256 OF THE DUMP (.gsa) THAT YtokfcndhmbkelaaProg.lean LOADS. Nothing in Lean hashes anything: it is a label: what it is worth is what the hold of that sum in a sandbox is worth. -/
noncomputable def Try.pinned : Pinned := { name := "ytokfcndhmbkelaa", sum := "96cc6fccd6d2a47325a1bda9b180683f616a3f375ec78b5667c49cc6b7c6783f", checked := Try.checked }
namespace Rows
def none {H : Type} : Left H := { results := [], args := [] }

/-- 'sievelaw06.RulesSplit': WHATEVER THE INPUT: true; the input reads as it did. -/
def rulesSplitSpec : ChangeSpec := { name := "rulesSplit", fn := fun _ => fun
  | [d] => { results := [.lit (.bool true)], args := [d] }
  | _ => none }
def rulesSplitRow : OpenClaim := { program := "ytokfcndhmbkelaa", sum := "96cc6fccd6d2a47325a1bda9b180683f616a3f375ec78b5667c49cc6b7c6783f", func := "sieve/sievelaw06.RulesSplit", spec := "rulesSplit", inPlace := ["internal/bytealg.IndexByteString", "internal/bytealg.IndexString", "internal/abi.NoEscape"], unfollowed := true, recurses := true, named := ["internal/bytealg.MaxLen"], apart := false }
def RulesSplitSaid : Prop := rulesSplitRow.holds Try.pinned (OpenSpec.ofChange rulesSplitSpec)

/-- ITS FALSE NEIGHBOUR: 'it returns false'. Refute it at one input. -/
def rulesSplitWrong : ChangeSpec := { name := "rulesSplit", fn := fun _ => fun
  | [d] => { results := [.lit (.bool false)], args := [d] }
  | _ => none }
def RulesSplitWrongFalsely : Prop := rulesSplitRow.holds Try.pinned (OpenSpec.ofChange rulesSplitWrong)

/-- 'sievelaw06.RulesJoin': WHATEVER THE INPUT: true; the input reads as it did. -/
def rulesJoinSpec : ChangeSpec := { name := "rulesJoin", fn := fun _ => fun
  | [d] => { results := [.lit (.bool true)], args := [d] }
  | _ => none }
def rulesJoinRow : OpenClaim := { program := "ytokfcndhmbkelaa", sum := "96cc6fccd6d2a47325a1bda9b180683f616a3f375ec78b5667c49cc6b7c6783f", func := "sieve/sievelaw06.RulesJoin", spec := "rulesJoin", inPlace := ["internal/bytealg.IndexByteString", "internal/bytealg.IndexString", "internal/abi.NoEscape"], unfollowed := true, recurses := true, named := ["internal/bytealg.MaxLen"], apart := false }
def RulesJoinSaid : Prop := rulesJoinRow.holds Try.pinned (OpenSpec.ofChange rulesJoinSpec)

/-- ITS FALSE NEIGHBOUR: 'it returns false'. Refute it at one input. -/
def rulesJoinWrong : ChangeSpec := { name := "rulesJoin", fn := fun _ => fun
  | [d] => { results := [.lit (.bool false)], args := [d] }
  | _ => none }
def RulesJoinWrongFalsely : Prop := rulesJoinRow.holds Try.pinned (OpenSpec.ofChange rulesJoinWrong)

/-- 'sievelaw06.RulesFirst': WHATEVER THE INPUT: true; the input reads as it did. -/
def rulesFirstSpec : ChangeSpec := { name := "rulesFirst", fn := fun _ => fun
  | [d1, d2] => { results := [.lit (.bool true)], args := [d1, d2] }
  | _ => none }
def rulesFirstRow : OpenClaim := { program := "ytokfcndhmbkelaa", sum := "96cc6fccd6d2a47325a1bda9b180683f616a3f375ec78b5667c49cc6b7c6783f", func := "sieve/sievelaw06.RulesFirst", spec := "rulesFirst", inPlace := ["internal/bytealg.IndexByteString", "internal/bytealg.IndexString", "internal/abi.NoEscape"], unfollowed := true, recurses := true, named := ["internal/bytealg.MaxLen"], apart := false }
def RulesFirstSaid : Prop := rulesFirstRow.holds Try.pinned (OpenSpec.ofChange rulesFirstSpec)

/-- ITS FALSE NEIGHBOUR: 'it returns false'. Refute it at one input. -/
def rulesFirstWrong : ChangeSpec := { name := "rulesFirst", fn := fun _ => fun
  | [d1, d2] => { results := [.lit (.bool false)], args := [d1, d2] }
  | _ => none }
def RulesFirstWrongFalsely : Prop := rulesFirstRow.holds Try.pinned (OpenSpec.ofChange rulesFirstWrong)

/-- 'sievelaw06.RulesNames': WHATEVER THE INPUT: true; the input reads as it did. -/
def rulesNamesSpec : ChangeSpec := { name := "rulesNames", fn := fun _ => fun
  | [d] => { results := [.lit (.bool true)], args := [d] }
  | _ => none }
def rulesNamesRow : OpenClaim := { program := "ytokfcndhmbkelaa", sum := "96cc6fccd6d2a47325a1bda9b180683f616a3f375ec78b5667c49cc6b7c6783f", func := "sieve/sievelaw06.RulesNames", spec := "rulesNames", inPlace := ["internal/bytealg.IndexByteString", "internal/bytealg.IndexString", "internal/abi.NoEscape"], unfollowed := true, recurses := true, named := ["internal/bytealg.MaxLen"], apart := false }
def RulesNamesSaid : Prop := rulesNamesRow.holds Try.pinned (OpenSpec.ofChange rulesNamesSpec)

/-- ITS FALSE NEIGHBOUR: 'it returns false'. Refute it at one input. -/
def rulesNamesWrong : ChangeSpec := { name := "rulesNames", fn := fun _ => fun
  | [d] => { results := [.lit (.bool false)], args := [d] }
  | _ => none }
def RulesNamesWrongFalsely : Prop := rulesNamesRow.holds Try.pinned (OpenSpec.ofChange rulesNamesWrong)

/-- 'sievelaw06.RulesRemarks': WHATEVER THE INPUT: true; the input reads as it did. -/
def rulesRemarksSpec : ChangeSpec := { name := "rulesRemarks", fn := fun _ => fun
  | [d1, d2] => { results := [.lit (.bool true)], args := [d1, d2] }
  | _ => none }
def rulesRemarksRow : OpenClaim := { program := "ytokfcndhmbkelaa", sum := "96cc6fccd6d2a47325a1bda9b180683f616a3f375ec78b5667c49cc6b7c6783f", func := "sieve/sievelaw06.RulesRemarks", spec := "rulesRemarks", inPlace := ["internal/bytealg.IndexByteString", "internal/bytealg.IndexString", "internal/abi.NoEscape"], unfollowed := true, recurses := true, named := ["internal/bytealg.MaxLen"], apart := false }
def RulesRemarksSaid : Prop := rulesRemarksRow.holds Try.pinned (OpenSpec.ofChange rulesRemarksSpec)

/-- ITS FALSE NEIGHBOUR: 'it returns false'. Refute it at one input. -/
def rulesRemarksWrong : ChangeSpec := { name := "rulesRemarks", fn := fun _ => fun
  | [d1, d2] => { results := [.lit (.bool false)], args := [d1, d2] }
  | _ => none }
def RulesRemarksWrongFalsely : Prop := rulesRemarksRow.holds Try.pinned (OpenSpec.ofChange rulesRemarksWrong)

/- THE SECOND FORM. 'bulk': how many values and letters a reading holds, each counted each time it is reached (what is shared counts as often as it is met; a slice's spare places count too). A statement '..UptoSaid' is the law's where the arguments, and the package variables that the reading takes, are together of bulk at most 1048576: NARROWER than '..Said'. Prove '..Said' where nothing that the law and all that it calls make is longer than what came in: it says more and counts as full. Else prove '..UptoSaid'. A law counts once. -/
mutual
def uptoBulk {H : Type} : DataW H → Nat
  | .lit (.string bytes) => bytes.length + 1
  | .lit _ => 1
  | .nil => 1
  | .ptr d => uptoBulk d + 1
  | .slice elems spare => uptoBulkAll elems + uptoBulkAll spare + 1
  | .agg parts => uptoBulkAll parts + 1
  | .iface _ d => uptoBulk d + 1
  | .map entries => uptoBulkEntries entries + 1
  | .held _ => 1
def uptoBulkAll {H : Type} : List (DataW H) → Nat
  | [] => 0
  | d :: r => uptoBulk d + uptoBulkAll r
def uptoBulkEntries {H : Type} : List (Lit × DataW H) → Nat
  | [] => 0
  | x :: r => uptoBulkEntry x + uptoBulkEntries r
def uptoBulkEntry {H : Type} : Lit × DataW H → Nat
  | (.string bytes, d) => bytes.length + uptoBulk d + 1
  | (_, d) => uptoBulk d + 1
 end
def uptoSmall : (H : Type) → List (DataW H) → Bool := fun _ ds => decide (uptoBulkAll ds ≤ 1048576)
def OpenSpec.upto (s : _root_.Go.ChangeSpec) : _root_.Go.OpenSpec := { _root_.Go.OpenSpec.ofChange s with cond := some uptoSmall }

/-- 'sievelaw06.RulesSplit', WHERE WHAT IT READS IS OF BULK AT MOST 1048576: true; the input reads as it did. -/
def rulesSplitUptoRow : OpenClaim := { program := "ytokfcndhmbkelaa", sum := "96cc6fccd6d2a47325a1bda9b180683f616a3f375ec78b5667c49cc6b7c6783f", func := "sieve/sievelaw06.RulesSplit", spec := "rulesSplit", inPlace := ["internal/bytealg.IndexByteString", "internal/bytealg.IndexString", "internal/abi.NoEscape"], unfollowed := true, recurses := true, named := ["internal/bytealg.MaxLen"], apart := false, narrowed := true }
def RulesSplitUptoSaid : Prop := rulesSplitUptoRow.holds Try.pinned (OpenSpec.upto rulesSplitSpec)

/-- 'sievelaw06.RulesJoin', WHERE WHAT IT READS IS OF BULK AT MOST 1048576: true; the input reads as it did. -/
def rulesJoinUptoRow : OpenClaim := { program := "ytokfcndhmbkelaa", sum := "96cc6fccd6d2a47325a1bda9b180683f616a3f375ec78b5667c49cc6b7c6783f", func := "sieve/sievelaw06.RulesJoin", spec := "rulesJoin", inPlace := ["internal/bytealg.IndexByteString", "internal/bytealg.IndexString", "internal/abi.NoEscape"], unfollowed := true, recurses := true, named := ["internal/bytealg.MaxLen"], apart := false, narrowed := true }
def RulesJoinUptoSaid : Prop := rulesJoinUptoRow.holds Try.pinned (OpenSpec.upto rulesJoinSpec)

/-- 'sievelaw06.RulesFirst', WHERE WHAT IT READS IS OF BULK AT MOST 1048576: true; the input reads as it did. -/
def rulesFirstUptoRow : OpenClaim := { program := "ytokfcndhmbkelaa", sum := "96cc6fccd6d2a47325a1bda9b180683f616a3f375ec78b5667c49cc6b7c6783f", func := "sieve/sievelaw06.RulesFirst", spec := "rulesFirst", inPlace := ["internal/bytealg.IndexByteString", "internal/bytealg.IndexString", "internal/abi.NoEscape"], unfollowed := true, recurses := true, named := ["internal/bytealg.MaxLen"], apart := false, narrowed := true }
def RulesFirstUptoSaid : Prop := rulesFirstUptoRow.holds Try.pinned (OpenSpec.upto rulesFirstSpec)

/-- 'sievelaw06.RulesNames', WHERE WHAT IT READS IS OF BULK AT MOST 1048576: true; the input reads as it did. -/
def rulesNamesUptoRow : OpenClaim := { program := "ytokfcndhmbkelaa", sum := "96cc6fccd6d2a47325a1bda9b180683f616a3f375ec78b5667c49cc6b7c6783f", func := "sieve/sievelaw06.RulesNames", spec := "rulesNames", inPlace := ["internal/bytealg.IndexByteString", "internal/bytealg.IndexString", "internal/abi.NoEscape"], unfollowed := true, recurses := true, named := ["internal/bytealg.MaxLen"], apart := false, narrowed := true }
def RulesNamesUptoSaid : Prop := rulesNamesUptoRow.holds Try.pinned (OpenSpec.upto rulesNamesSpec)

/-- 'sievelaw06.RulesRemarks', WHERE WHAT IT READS IS OF BULK AT MOST 1048576: true; the input reads as it did. -/
def rulesRemarksUptoRow : OpenClaim := { program := "ytokfcndhmbkelaa", sum := "96cc6fccd6d2a47325a1bda9b180683f616a3f375ec78b5667c49cc6b7c6783f", func := "sieve/sievelaw06.RulesRemarks", spec := "rulesRemarks", inPlace := ["internal/bytealg.IndexByteString", "internal/bytealg.IndexString", "internal/abi.NoEscape"], unfollowed := true, recurses := true, named := ["internal/bytealg.MaxLen"], apart := false, narrowed := true }
def RulesRemarksUptoSaid : Prop := rulesRemarksUptoRow.holds Try.pinned (OpenSpec.upto rulesRemarksSpec)

end Rows
end Go.Proofs.Ytokfcndhmbkelaa
