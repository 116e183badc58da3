/-
  No cell of these rows narrows 'for every input' (looked for: loops, veiled, ifaces, maps, wideKeys, modest, calm, conditions, laid).
  DERIVED. THE GIVEN ROWS OF THIS SEAT. 5 by the template 'for every input the law returns true; each argument reads behind the call as it read before'; 0 by the template 'total and deterministic' (their statements: YthbjdnhncgobkaaTotals.lean).
  GIVEN WITH THE SEED: the statements are not yours to turn. If you find one false, say at which input.
  Laid BY PROGRAM, IN A SANDBOX (cutbox-rows.mjs): the forced cells as the released guide's own fill.sh prints them over the translation c7e7c32e87f7de01… (all of the seat's roots in one cut). By AI agents, Wed Nov 11 2026. No macro, syntax, notation, axiom, sorry.
-/
import Derived.Test.YthbjdnhncgobkaaChecked
import GoSem.Claim
import GoSem.ClaimJoined
import GoSem.ClaimMapViews
import Derived.JoinedTies
import Derived.KernelRfl
namespace Go.Proofs.Ythbjdnhncgobkaa
/- THE CELL 'sum', in the pinned program and in every row, IS THE sha256 OF THE DUMP (.gsa) THAT YthbjdnhncgobkaaProg.lean LOADS. Nothing in Lean hashes anything: it is a label: what it is worth is what the hold of that sum in a sandbox is worth. -/
noncomputable def Try.pinned : Pinned := { name := "ythbjdnhncgobkaa", sum := "c7e7c32e87f7de016b03208153d3e917da7ce45632d824e32529e33b0d3136fe", checked := Try.checked }
namespace Rows
def none {H : Type} : Left H := { results := [], args := [] }

/-- 'sievelaw01.MeterPlays': WHATEVER THE INPUT: true; the input reads as it did. -/
def meterPlaysSpec : ChangeSpec := { name := "meterPlays", fn := fun _ => fun
  | [d1, d2, d3] => { results := [.lit (.bool true)], args := [d1, d2, d3] }
  | _ => none }
def meterPlaysRow : OpenClaim := { program := "ythbjdnhncgobkaa", sum := "c7e7c32e87f7de016b03208153d3e917da7ce45632d824e32529e33b0d3136fe", func := "sieve/sievelaw01.MeterPlays", spec := "meterPlays", apart := false }
def MeterPlaysSaid : Prop := meterPlaysRow.holds Try.pinned (OpenSpec.ofChange meterPlaysSpec)

/-- ITS FALSE NEIGHBOUR: 'it returns false'. Refute it at one input. -/
def meterPlaysWrong : ChangeSpec := { name := "meterPlays", fn := fun _ => fun
  | [d1, d2, d3] => { results := [.lit (.bool false)], args := [d1, d2, d3] }
  | _ => none }
def MeterPlaysWrongFalsely : Prop := meterPlaysRow.holds Try.pinned (OpenSpec.ofChange meterPlaysWrong)

/-- 'sievelaw01.MeterHonest': WHATEVER THE INPUT: true; the input reads as it did. -/
def meterHonestSpec : ChangeSpec := { name := "meterHonest", fn := fun _ => fun
  | [d1, d2, d3] => { results := [.lit (.bool true)], args := [d1, d2, d3] }
  | _ => none }
def meterHonestRow : OpenClaim := { program := "ythbjdnhncgobkaa", sum := "c7e7c32e87f7de016b03208153d3e917da7ce45632d824e32529e33b0d3136fe", func := "sieve/sievelaw01.MeterHonest", spec := "meterHonest", apart := false }
def MeterHonestSaid : Prop := meterHonestRow.holds Try.pinned (OpenSpec.ofChange meterHonestSpec)

/-- ITS FALSE NEIGHBOUR: 'it returns false'. Refute it at one input. -/
def meterHonestWrong : ChangeSpec := { name := "meterHonest", fn := fun _ => fun
  | [d1, d2, d3] => { results := [.lit (.bool false)], args := [d1, d2, d3] }
  | _ => none }
def MeterHonestWrongFalsely : Prop := meterHonestRow.holds Try.pinned (OpenSpec.ofChange meterHonestWrong)

/-- 'sievelaw01.MeterNil': WHATEVER THE INPUT: true; the input reads as it did. -/
def meterNilSpec : ChangeSpec := { name := "meterNil", fn := fun _ => fun
  | [d] => { results := [.lit (.bool true)], args := [d] }
  | _ => none }
def meterNilRow : OpenClaim := { program := "ythbjdnhncgobkaa", sum := "c7e7c32e87f7de016b03208153d3e917da7ce45632d824e32529e33b0d3136fe", func := "sieve/sievelaw01.MeterNil", spec := "meterNil", apart := false }
def MeterNilSaid : Prop := meterNilRow.holds Try.pinned (OpenSpec.ofChange meterNilSpec)

/-- ITS FALSE NEIGHBOUR: 'it returns false'. Refute it at one input. -/
def meterNilWrong : ChangeSpec := { name := "meterNil", fn := fun _ => fun
  | [d] => { results := [.lit (.bool false)], args := [d] }
  | _ => none }
def MeterNilWrongFalsely : Prop := meterNilRow.holds Try.pinned (OpenSpec.ofChange meterNilWrong)

/-- 'sievelaw01.MeterRoom': WHATEVER THE INPUT: true; the input reads as it did. -/
def meterRoomSpec : ChangeSpec := { name := "meterRoom", fn := fun _ => fun
  | [d1, d2, d3, d4] => { results := [.lit (.bool true)], args := [d1, d2, d3, d4] }
  | _ => none }
def meterRoomRow : OpenClaim := { program := "ythbjdnhncgobkaa", sum := "c7e7c32e87f7de016b03208153d3e917da7ce45632d824e32529e33b0d3136fe", func := "sieve/sievelaw01.MeterRoom", spec := "meterRoom", apart := false }
def MeterRoomSaid : Prop := meterRoomRow.holds Try.pinned (OpenSpec.ofChange meterRoomSpec)

/-- ITS FALSE NEIGHBOUR: 'it returns false'. Refute it at one input. -/
def meterRoomWrong : ChangeSpec := { name := "meterRoom", fn := fun _ => fun
  | [d1, d2, d3, d4] => { results := [.lit (.bool false)], args := [d1, d2, d3, d4] }
  | _ => none }
def MeterRoomWrongFalsely : Prop := meterRoomRow.holds Try.pinned (OpenSpec.ofChange meterRoomWrong)

/-- 'sievelaw01.MeterParts': WHATEVER THE INPUT: true; the input reads as it did. -/
def meterPartsSpec : ChangeSpec := { name := "meterParts", fn := fun _ => fun
  | [d1, d2, d3, d4] => { results := [.lit (.bool true)], args := [d1, d2, d3, d4] }
  | _ => none }
def meterPartsRow : OpenClaim := { program := "ythbjdnhncgobkaa", sum := "c7e7c32e87f7de016b03208153d3e917da7ce45632d824e32529e33b0d3136fe", func := "sieve/sievelaw01.MeterParts", spec := "meterParts", apart := false }
def MeterPartsSaid : Prop := meterPartsRow.holds Try.pinned (OpenSpec.ofChange meterPartsSpec)

/-- ITS FALSE NEIGHBOUR: 'it returns false'. Refute it at one input. -/
def meterPartsWrong : ChangeSpec := { name := "meterParts", fn := fun _ => fun
  | [d1, d2, d3, d4] => { results := [.lit (.bool false)], args := [d1, d2, d3, d4] }
  | _ => none }
def MeterPartsWrongFalsely : Prop := meterPartsRow.holds Try.pinned (OpenSpec.ofChange meterPartsWrong)

/- THE SECOND FORM. 'bulk': how many values and letters a reading holds, each counted each time it is reached (what is shared counts as often as it is met; a slice's spare places count too). A statement '..UptoSaid' is the law's where the arguments, and the package variables that the reading takes, are together of bulk at most 1048576: NARROWER than '..Said'. Prove '..Said' where nothing that the law and all that it calls make is longer than what came in: it says more and counts as full. Else prove '..UptoSaid'. A law counts once. -/
mutual
def uptoBulk {H : Type} : DataW H → Nat
  | .lit (.string bytes) => bytes.length + 1
  | .lit _ => 1
  | .nil => 1
  | .ptr d => uptoBulk d + 1
  | .slice elems spare => uptoBulkAll elems + uptoBulkAll spare + 1
  | .agg parts => uptoBulkAll parts + 1
  | .iface _ d => uptoBulk d + 1
  | .map entries => uptoBulkEntries entries + 1
  | .held _ => 1
def uptoBulkAll {H : Type} : List (DataW H) → Nat
  | [] => 0
  | d :: r => uptoBulk d + uptoBulkAll r
def uptoBulkEntries {H : Type} : List (Lit × DataW H) → Nat
  | [] => 0
  | x :: r => uptoBulkEntry x + uptoBulkEntries r
def uptoBulkEntry {H : Type} : Lit × DataW H → Nat
  | (.string bytes, d) => bytes.length + uptoBulk d + 1
  | (_, d) => uptoBulk d + 1
 end
def uptoSmall : (H : Type) → List (DataW H) → Bool := fun _ ds => decide (uptoBulkAll ds ≤ 1048576)
def OpenSpec.upto (s : _root_.Go.ChangeSpec) : _root_.Go.OpenSpec := { _root_.Go.OpenSpec.ofChange s with cond := some uptoSmall }

/-- 'sievelaw01.MeterPlays', WHERE WHAT IT READS IS OF BULK AT MOST 1048576: true; the input reads as it did. -/
def meterPlaysUptoRow : OpenClaim := { program := "ythbjdnhncgobkaa", sum := "c7e7c32e87f7de016b03208153d3e917da7ce45632d824e32529e33b0d3136fe", func := "sieve/sievelaw01.MeterPlays", spec := "meterPlays", apart := false, narrowed := true }
def MeterPlaysUptoSaid : Prop := meterPlaysUptoRow.holds Try.pinned (OpenSpec.upto meterPlaysSpec)

/-- 'sievelaw01.MeterHonest', WHERE WHAT IT READS IS OF BULK AT MOST 1048576: true; the input reads as it did. -/
def meterHonestUptoRow : OpenClaim := { program := "ythbjdnhncgobkaa", sum := "c7e7c32e87f7de016b03208153d3e917da7ce45632d824e32529e33b0d3136fe", func := "sieve/sievelaw01.MeterHonest", spec := "meterHonest", apart := false, narrowed := true }
def MeterHonestUptoSaid : Prop := meterHonestUptoRow.holds Try.pinned (OpenSpec.upto meterHonestSpec)

/-- 'sievelaw01.MeterNil', WHERE WHAT IT READS IS OF BULK AT MOST 1048576: true; the input reads as it did. -/
def meterNilUptoRow : OpenClaim := { program := "ythbjdnhncgobkaa", sum := "c7e7c32e87f7de016b03208153d3e917da7ce45632d824e32529e33b0d3136fe", func := "sieve/sievelaw01.MeterNil", spec := "meterNil", apart := false, narrowed := true }
def MeterNilUptoSaid : Prop := meterNilUptoRow.holds Try.pinned (OpenSpec.upto meterNilSpec)

/-- 'sievelaw01.MeterRoom', WHERE WHAT IT READS IS OF BULK AT MOST 1048576: true; the input reads as it did. -/
def meterRoomUptoRow : OpenClaim := { program := "ythbjdnhncgobkaa", sum := "c7e7c32e87f7de016b03208153d3e917da7ce45632d824e32529e33b0d3136fe", func := "sieve/sievelaw01.MeterRoom", spec := "meterRoom", apart := false, narrowed := true }
def MeterRoomUptoSaid : Prop := meterRoomUptoRow.holds Try.pinned (OpenSpec.upto meterRoomSpec)

/-- 'sievelaw01.MeterParts', WHERE WHAT IT READS IS OF BULK AT MOST 1048576: true; the input reads as it did. -/
def meterPartsUptoRow : OpenClaim := { program := "ythbjdnhncgobkaa", sum := "c7e7c32e87f7de016b03208153d3e917da7ce45632d824e32529e33b0d3136fe", func := "sieve/sievelaw01.MeterParts", spec := "meterParts", apart := false, narrowed := true }
def MeterPartsUptoSaid : Prop := meterPartsUptoRow.holds Try.pinned (OpenSpec.upto meterPartsSpec)

end Rows
end Go.Proofs.Ythbjdnhncgobkaa
