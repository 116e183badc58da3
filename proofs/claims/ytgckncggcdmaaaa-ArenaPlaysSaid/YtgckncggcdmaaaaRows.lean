/-
  No cell of these rows narrows 'for every input' (looked for: loops, veiled, ifaces, maps, wideKeys, modest, calm, conditions, laid).
  DERIVED. THE GIVEN ROWS OF THIS SEAT. 5 by the template 'for every input the law returns true; each argument reads behind the call as it read before'; 0 by the template 'total and deterministic' (their statements: YtgckncggcdmaaaaTotals.lean).
  GIVEN WITH THE SEED: the statements are not yours to turn. If you find one false, say at which input.
  Laid BY PROGRAM, IN A SANDBOX (cutbox-rows.mjs): the forced cells as the released guide's own fill.sh prints them over the translation a0c67639a0c64891… (all of the seat's roots in one cut). By AI agents, Wed Nov 11 2026. No macro, syntax, notation, axiom, sorry.
-/
import Derived.Test.YtgckncggcdmaaaaChecked
import GoSem.Claim
import GoSem.ClaimJoined
import GoSem.ClaimMapViews
import Derived.JoinedTies
import Derived.KernelRfl
namespace Go.Proofs.Ytgckncggcdmaaaa
/- THE CELL 'sum', in the pinned program and in every row, IS THE sha256 OF THE DUMP (.gsa) THAT YtgckncggcdmaaaaProg.lean LOADS. Nothing in Lean hashes anything: it is a label: what it is worth is what the hold of that sum in a sandbox is worth. -/
noncomputable def Try.pinned : Pinned := { name := "ytgckncggcdmaaaa", sum := "a0c67639a0c648919da1ba3d4b5623112bdaf34362c9c276bc9c5075cc539cd5", checked := Try.checked }
namespace Rows
def none {H : Type} : Left H := { results := [], args := [] }

/-- 'sievelaw02.ArenaTwice': WHATEVER THE INPUT: true; the input reads as it did. -/
def arenaTwiceSpec : ChangeSpec := { name := "arenaTwice", fn := fun _ => fun
  | [d1, d2, d3] => { results := [.lit (.bool true)], args := [d1, d2, d3] }
  | _ => none }
def arenaTwiceRow : OpenClaim := { program := "ytgckncggcdmaaaa", sum := "a0c67639a0c648919da1ba3d4b5623112bdaf34362c9c276bc9c5075cc539cd5", func := "sieve/sievelaw02.ArenaTwice", spec := "arenaTwice", unfollowed := true, recurses := true, apart := false }
def ArenaTwiceSaid : Prop := arenaTwiceRow.holds Try.pinned (OpenSpec.ofChange arenaTwiceSpec)

/-- ITS FALSE NEIGHBOUR: 'it returns false'. Refute it at one input. -/
def arenaTwiceWrong : ChangeSpec := { name := "arenaTwice", fn := fun _ => fun
  | [d1, d2, d3] => { results := [.lit (.bool false)], args := [d1, d2, d3] }
  | _ => none }
def ArenaTwiceWrongFalsely : Prop := arenaTwiceRow.holds Try.pinned (OpenSpec.ofChange arenaTwiceWrong)

/-- 'sievelaw02.ArenaFresh': WHATEVER THE INPUT: true; the input reads as it did. -/
def arenaFreshSpec : ChangeSpec := { name := "arenaFresh", fn := fun _ => fun
  | [d1, d2] => { results := [.lit (.bool true)], args := [d1, d2] }
  | _ => none }
def arenaFreshRow : OpenClaim := { program := "ytgckncggcdmaaaa", sum := "a0c67639a0c648919da1ba3d4b5623112bdaf34362c9c276bc9c5075cc539cd5", func := "sieve/sievelaw02.ArenaFresh", spec := "arenaFresh", inPlace := ["maps.clone"], unfollowed := true, recurses := true, apart := false }
def ArenaFreshSaid : Prop := arenaFreshRow.holds Try.pinned (OpenSpec.ofChange arenaFreshSpec)

/-- ITS FALSE NEIGHBOUR: 'it returns false'. Refute it at one input. -/
def arenaFreshWrong : ChangeSpec := { name := "arenaFresh", fn := fun _ => fun
  | [d1, d2] => { results := [.lit (.bool false)], args := [d1, d2] }
  | _ => none }
def ArenaFreshWrongFalsely : Prop := arenaFreshRow.holds Try.pinned (OpenSpec.ofChange arenaFreshWrong)

/-- 'sievelaw02.ArenaNil': WHATEVER THE INPUT: true; the input reads as it did. -/
def arenaNilSpec : ChangeSpec := { name := "arenaNil", fn := fun _ => fun
  | [d1, d2] => { results := [.lit (.bool true)], args := [d1, d2] }
  | _ => none }
def arenaNilRow : OpenClaim := { program := "ytgckncggcdmaaaa", sum := "a0c67639a0c648919da1ba3d4b5623112bdaf34362c9c276bc9c5075cc539cd5", func := "sieve/sievelaw02.ArenaNil", spec := "arenaNil", inPlace := ["maps.clone"], unfollowed := true, recurses := true, apart := false }
def ArenaNilSaid : Prop := arenaNilRow.holds Try.pinned (OpenSpec.ofChange arenaNilSpec)

/-- ITS FALSE NEIGHBOUR: 'it returns false'. Refute it at one input. -/
def arenaNilWrong : ChangeSpec := { name := "arenaNil", fn := fun _ => fun
  | [d1, d2] => { results := [.lit (.bool false)], args := [d1, d2] }
  | _ => none }
def ArenaNilWrongFalsely : Prop := arenaNilRow.holds Try.pinned (OpenSpec.ofChange arenaNilWrong)

/-- 'sievelaw02.ArenaApart': WHATEVER THE INPUT: true; the input reads as it did. -/
def arenaApartSpec : ChangeSpec := { name := "arenaApart", fn := fun _ => fun
  | [d1, d2] => { results := [.lit (.bool true)], args := [d1, d2] }
  | _ => none }
def arenaApartRow : OpenClaim := { program := "ytgckncggcdmaaaa", sum := "a0c67639a0c648919da1ba3d4b5623112bdaf34362c9c276bc9c5075cc539cd5", func := "sieve/sievelaw02.ArenaApart", spec := "arenaApart", inPlace := ["maps.clone"], unfollowed := true, recurses := true, apart := false }
def ArenaApartSaid : Prop := arenaApartRow.holds Try.pinned (OpenSpec.ofChange arenaApartSpec)

/-- ITS FALSE NEIGHBOUR: 'it returns false'. Refute it at one input. -/
def arenaApartWrong : ChangeSpec := { name := "arenaApart", fn := fun _ => fun
  | [d1, d2] => { results := [.lit (.bool false)], args := [d1, d2] }
  | _ => none }
def ArenaApartWrongFalsely : Prop := arenaApartRow.holds Try.pinned (OpenSpec.ofChange arenaApartWrong)

/-- 'sievelaw02.ArenaPlays': WHATEVER THE INPUT: true; the input reads as it did. -/
def arenaPlaysSpec : ChangeSpec := { name := "arenaPlays", fn := fun _ => fun
  | [d1, d2, d3] => { results := [.lit (.bool true)], args := [d1, d2, d3] }
  | _ => none }
def arenaPlaysRow : OpenClaim := { program := "ytgckncggcdmaaaa", sum := "a0c67639a0c648919da1ba3d4b5623112bdaf34362c9c276bc9c5075cc539cd5", func := "sieve/sievelaw02.ArenaPlays", spec := "arenaPlays", inPlace := ["maps.clone"], unfollowed := true, recurses := true, apart := false }
def ArenaPlaysSaid : Prop := arenaPlaysRow.holds Try.pinned (OpenSpec.ofChange arenaPlaysSpec)

/-- ITS FALSE NEIGHBOUR: 'it returns false'. Refute it at one input. -/
def arenaPlaysWrong : ChangeSpec := { name := "arenaPlays", fn := fun _ => fun
  | [d1, d2, d3] => { results := [.lit (.bool false)], args := [d1, d2, d3] }
  | _ => none }
def ArenaPlaysWrongFalsely : Prop := arenaPlaysRow.holds Try.pinned (OpenSpec.ofChange arenaPlaysWrong)

/- THE SECOND FORM. 'bulk': how many values and letters a reading holds, each counted each time it is reached (what is shared counts as often as it is met; a slice's spare places count too). A statement '..UptoSaid' is the law's where the arguments, and the package variables that the reading takes, are together of bulk at most 1048576: NARROWER than '..Said'. Prove '..Said' where nothing that the law and all that it calls make is longer than what came in: it says more and counts as full. Else prove '..UptoSaid'. A law counts once. -/
mutual
def uptoBulk {H : Type} : DataW H → Nat
  | .lit (.string bytes) => bytes.length + 1
  | .lit _ => 1
  | .nil => 1
  | .ptr d => uptoBulk d + 1
  | .slice elems spare => uptoBulkAll elems + uptoBulkAll spare + 1
  | .agg parts => uptoBulkAll parts + 1
  | .iface _ d => uptoBulk d + 1
  | .map entries => uptoBulkEntries entries + 1
  | .held _ => 1
def uptoBulkAll {H : Type} : List (DataW H) → Nat
  | [] => 0
  | d :: r => uptoBulk d + uptoBulkAll r
def uptoBulkEntries {H : Type} : List (Lit × DataW H) → Nat
  | [] => 0
  | x :: r => uptoBulkEntry x + uptoBulkEntries r
def uptoBulkEntry {H : Type} : Lit × DataW H → Nat
  | (.string bytes, d) => bytes.length + uptoBulk d + 1
  | (_, d) => uptoBulk d + 1
 end
def uptoSmall : (H : Type) → List (DataW H) → Bool := fun _ ds => decide (uptoBulkAll ds ≤ 1048576)
def OpenSpec.upto (s : _root_.Go.ChangeSpec) : _root_.Go.OpenSpec := { _root_.Go.OpenSpec.ofChange s with cond := some uptoSmall }

/-- 'sievelaw02.ArenaTwice', WHERE WHAT IT READS IS OF BULK AT MOST 1048576: true; the input reads as it did. -/
def arenaTwiceUptoRow : OpenClaim := { program := "ytgckncggcdmaaaa", sum := "a0c67639a0c648919da1ba3d4b5623112bdaf34362c9c276bc9c5075cc539cd5", func := "sieve/sievelaw02.ArenaTwice", spec := "arenaTwice", unfollowed := true, recurses := true, apart := false, narrowed := true }
def ArenaTwiceUptoSaid : Prop := arenaTwiceUptoRow.holds Try.pinned (OpenSpec.upto arenaTwiceSpec)

/-- 'sievelaw02.ArenaFresh', WHERE WHAT IT READS IS OF BULK AT MOST 1048576: true; the input reads as it did. -/
def arenaFreshUptoRow : OpenClaim := { program := "ytgckncggcdmaaaa", sum := "a0c67639a0c648919da1ba3d4b5623112bdaf34362c9c276bc9c5075cc539cd5", func := "sieve/sievelaw02.ArenaFresh", spec := "arenaFresh", inPlace := ["maps.clone"], unfollowed := true, recurses := true, apart := false, narrowed := true }
def ArenaFreshUptoSaid : Prop := arenaFreshUptoRow.holds Try.pinned (OpenSpec.upto arenaFreshSpec)

/-- 'sievelaw02.ArenaNil', WHERE WHAT IT READS IS OF BULK AT MOST 1048576: true; the input reads as it did. -/
def arenaNilUptoRow : OpenClaim := { program := "ytgckncggcdmaaaa", sum := "a0c67639a0c648919da1ba3d4b5623112bdaf34362c9c276bc9c5075cc539cd5", func := "sieve/sievelaw02.ArenaNil", spec := "arenaNil", inPlace := ["maps.clone"], unfollowed := true, recurses := true, apart := false, narrowed := true }
def ArenaNilUptoSaid : Prop := arenaNilUptoRow.holds Try.pinned (OpenSpec.upto arenaNilSpec)

/-- 'sievelaw02.ArenaApart', WHERE WHAT IT READS IS OF BULK AT MOST 1048576: true; the input reads as it did. -/
def arenaApartUptoRow : OpenClaim := { program := "ytgckncggcdmaaaa", sum := "a0c67639a0c648919da1ba3d4b5623112bdaf34362c9c276bc9c5075cc539cd5", func := "sieve/sievelaw02.ArenaApart", spec := "arenaApart", inPlace := ["maps.clone"], unfollowed := true, recurses := true, apart := false, narrowed := true }
def ArenaApartUptoSaid : Prop := arenaApartUptoRow.holds Try.pinned (OpenSpec.upto arenaApartSpec)

/-- 'sievelaw02.ArenaPlays', WHERE WHAT IT READS IS OF BULK AT MOST 1048576: true; the input reads as it did. -/
def arenaPlaysUptoRow : OpenClaim := { program := "ytgckncggcdmaaaa", sum := "a0c67639a0c648919da1ba3d4b5623112bdaf34362c9c276bc9c5075cc539cd5", func := "sieve/sievelaw02.ArenaPlays", spec := "arenaPlays", inPlace := ["maps.clone"], unfollowed := true, recurses := true, apart := false, narrowed := true }
def ArenaPlaysUptoSaid : Prop := arenaPlaysUptoRow.holds Try.pinned (OpenSpec.upto arenaPlaysSpec)

end Rows
end Go.Proofs.Ytgckncggcdmaaaa
