/-
  No cell of these rows narrows 'for every input' (looked for: loops, veiled, ifaces, maps, wideKeys, modest, calm, conditions, laid).
  DERIVED. THE GIVEN ROWS OF THIS SEAT. 4 by the template 'for every input the law returns true; each argument reads behind the call as it read before'; 0 by the template 'total and deterministic' (their statements: YtafcnehinanecaaTotals.lean).
  GIVEN WITH THE SEED: the statements are not yours to turn. If you find one false, say at which input.
  Laid BY PROGRAM, IN A SANDBOX (cutbox-rows.mjs): the forced cells as the released guide's own fill.sh prints them over the translation 2404cc9ee882eabc… (all of the seat's roots in one cut). By AI agents, Wed Nov 11 2026. No macro, syntax, notation, axiom, sorry.
-/
import Derived.Test.YtafcnehinanecaaChecked
import GoSem.Claim
import GoSem.ClaimJoined
import GoSem.ClaimMapViews
import Derived.JoinedTies
import Derived.KernelRfl
namespace Go.Proofs.Ytafcnehinanecaa
/- THE CELL 'sum', in the pinned program and in every row, IS THE sha256 OF THE DUMP (.gsa) THAT YtafcnehinanecaaProg.lean LOADS. Nothing in Lean hashes anything: it is a label: what it is worth is what the hold of that sum in a sandbox is worth. -/
noncomputable def Try.pinned : Pinned := { name := "ytafcnehinanecaa", sum := "2404cc9ee882eabcdd253e180f4b4b3cb515aca16d0d2f7a30ebf24372094456", checked := Try.checked }
namespace Rows
def none {H : Type} : Left H := { results := [], args := [] }

/-- 'sievelaw18.LiveTells': WHATEVER THE INPUT: true; the input reads as it did. -/
def liveTellsSpec : ChangeSpec := { name := "liveTells", fn := fun _ => fun
  | [d] => { results := [.lit (.bool true)], args := [d] }
  | _ => none }
def liveTellsRow : OpenClaim := { program := "ytafcnehinanecaa", sum := "2404cc9ee882eabcdd253e180f4b4b3cb515aca16d0d2f7a30ebf24372094456", func := "sieve/sievelaw18.LiveTells", spec := "liveTells", unfollowed := true, recurses := true, apart := false }
def LiveTellsSaid : Prop := liveTellsRow.holds Try.pinned (OpenSpec.ofChange liveTellsSpec)

/-- ITS FALSE NEIGHBOUR: 'it returns false'. Refute it at one input. -/
def liveTellsWrong : ChangeSpec := { name := "liveTells", fn := fun _ => fun
  | [d] => { results := [.lit (.bool false)], args := [d] }
  | _ => none }
def LiveTellsWrongFalsely : Prop := liveTellsRow.holds Try.pinned (OpenSpec.ofChange liveTellsWrong)

/-- 'sievelaw18.LiveTrims': WHATEVER THE INPUT: true; the input reads as it did. -/
def liveTrimsSpec : ChangeSpec := { name := "liveTrims", fn := fun _ => fun
  | [d1, d2] => { results := [.lit (.bool true)], args := [d1, d2] }
  | _ => none }
def liveTrimsRow : OpenClaim := { program := "ytafcnehinanecaa", sum := "2404cc9ee882eabcdd253e180f4b4b3cb515aca16d0d2f7a30ebf24372094456", func := "sieve/sievelaw18.LiveTrims", spec := "liveTrims", unfollowed := true, recurses := true, apart := false }
def LiveTrimsSaid : Prop := liveTrimsRow.holds Try.pinned (OpenSpec.ofChange liveTrimsSpec)

/-- ITS FALSE NEIGHBOUR: 'it returns false'. Refute it at one input. -/
def liveTrimsWrong : ChangeSpec := { name := "liveTrims", fn := fun _ => fun
  | [d1, d2] => { results := [.lit (.bool false)], args := [d1, d2] }
  | _ => none }
def LiveTrimsWrongFalsely : Prop := liveTrimsRow.holds Try.pinned (OpenSpec.ofChange liveTrimsWrong)

/-- 'sievelaw18.LiveNumbers': WHATEVER THE INPUT: true; the input reads as it did. -/
def liveNumbersSpec : ChangeSpec := { name := "liveNumbers", fn := fun _ => fun
  | [d1, d2, d3] => { results := [.lit (.bool true)], args := [d1, d2, d3] }
  | _ => none }
def liveNumbersRow : OpenClaim := { program := "ytafcnehinanecaa", sum := "2404cc9ee882eabcdd253e180f4b4b3cb515aca16d0d2f7a30ebf24372094456", func := "sieve/sievelaw18.LiveNumbers", spec := "liveNumbers", unfollowed := true, recurses := true, apart := false }
def LiveNumbersSaid : Prop := liveNumbersRow.holds Try.pinned (OpenSpec.ofChange liveNumbersSpec)

/-- ITS FALSE NEIGHBOUR: 'it returns false'. Refute it at one input. -/
def liveNumbersWrong : ChangeSpec := { name := "liveNumbers", fn := fun _ => fun
  | [d1, d2, d3] => { results := [.lit (.bool false)], args := [d1, d2, d3] }
  | _ => none }
def LiveNumbersWrongFalsely : Prop := liveNumbersRow.holds Try.pinned (OpenSpec.ofChange liveNumbersWrong)

/-- 'sievelaw18.LiveOrder': WHATEVER THE INPUT: true; the input reads as it did. -/
def liveOrderSpec : ChangeSpec := { name := "liveOrder", fn := fun _ => fun
  | [d] => { results := [.lit (.bool true)], args := [d] }
  | _ => none }
def liveOrderRow : OpenClaim := { program := "ytafcnehinanecaa", sum := "2404cc9ee882eabcdd253e180f4b4b3cb515aca16d0d2f7a30ebf24372094456", func := "sieve/sievelaw18.LiveOrder", spec := "liveOrder", unfollowed := true, recurses := true, apart := false }
def LiveOrderSaid : Prop := liveOrderRow.holds Try.pinned (OpenSpec.ofChange liveOrderSpec)

/-- ITS FALSE NEIGHBOUR: 'it returns false'. Refute it at one input. -/
def liveOrderWrong : ChangeSpec := { name := "liveOrder", fn := fun _ => fun
  | [d] => { results := [.lit (.bool false)], args := [d] }
  | _ => none }
def LiveOrderWrongFalsely : Prop := liveOrderRow.holds Try.pinned (OpenSpec.ofChange liveOrderWrong)

/- THE SECOND FORM. 'bulk': how many values and letters a reading holds, each counted each time it is reached (what is shared counts as often as it is met; a slice's spare places count too). A statement '..UptoSaid' is the law's where the arguments, and the package variables that the reading takes, are together of bulk at most 1048576: NARROWER than '..Said'. Prove '..Said' where nothing that the law and all that it calls make is longer than what came in: it says more and counts as full. Else prove '..UptoSaid'. A law counts once. -/
mutual
def uptoBulk {H : Type} : DataW H → Nat
  | .lit (.string bytes) => bytes.length + 1
  | .lit _ => 1
  | .nil => 1
  | .ptr d => uptoBulk d + 1
  | .slice elems spare => uptoBulkAll elems + uptoBulkAll spare + 1
  | .agg parts => uptoBulkAll parts + 1
  | .iface _ d => uptoBulk d + 1
  | .map entries => uptoBulkEntries entries + 1
  | .held _ => 1
def uptoBulkAll {H : Type} : List (DataW H) → Nat
  | [] => 0
  | d :: r => uptoBulk d + uptoBulkAll r
def uptoBulkEntries {H : Type} : List (Lit × DataW H) → Nat
  | [] => 0
  | x :: r => uptoBulkEntry x + uptoBulkEntries r
def uptoBulkEntry {H : Type} : Lit × DataW H → Nat
  | (.string bytes, d) => bytes.length + uptoBulk d + 1
  | (_, d) => uptoBulk d + 1
 end
def uptoSmall : (H : Type) → List (DataW H) → Bool := fun _ ds => decide (uptoBulkAll ds ≤ 1048576)
def OpenSpec.upto (s : _root_.Go.ChangeSpec) : _root_.Go.OpenSpec := { _root_.Go.OpenSpec.ofChange s with cond := some uptoSmall }

/-- 'sievelaw18.LiveTells', WHERE WHAT IT READS IS OF BULK AT MOST 1048576: true; the input reads as it did. -/
def liveTellsUptoRow : OpenClaim := { program := "ytafcnehinanecaa", sum := "2404cc9ee882eabcdd253e180f4b4b3cb515aca16d0d2f7a30ebf24372094456", func := "sieve/sievelaw18.LiveTells", spec := "liveTells", unfollowed := true, recurses := true, apart := false, narrowed := true }
def LiveTellsUptoSaid : Prop := liveTellsUptoRow.holds Try.pinned (OpenSpec.upto liveTellsSpec)

/-- 'sievelaw18.LiveTrims', WHERE WHAT IT READS IS OF BULK AT MOST 1048576: true; the input reads as it did. -/
def liveTrimsUptoRow : OpenClaim := { program := "ytafcnehinanecaa", sum := "2404cc9ee882eabcdd253e180f4b4b3cb515aca16d0d2f7a30ebf24372094456", func := "sieve/sievelaw18.LiveTrims", spec := "liveTrims", unfollowed := true, recurses := true, apart := false, narrowed := true }
def LiveTrimsUptoSaid : Prop := liveTrimsUptoRow.holds Try.pinned (OpenSpec.upto liveTrimsSpec)

/-- 'sievelaw18.LiveNumbers', WHERE WHAT IT READS IS OF BULK AT MOST 1048576: true; the input reads as it did. -/
def liveNumbersUptoRow : OpenClaim := { program := "ytafcnehinanecaa", sum := "2404cc9ee882eabcdd253e180f4b4b3cb515aca16d0d2f7a30ebf24372094456", func := "sieve/sievelaw18.LiveNumbers", spec := "liveNumbers", unfollowed := true, recurses := true, apart := false, narrowed := true }
def LiveNumbersUptoSaid : Prop := liveNumbersUptoRow.holds Try.pinned (OpenSpec.upto liveNumbersSpec)

/-- 'sievelaw18.LiveOrder', WHERE WHAT IT READS IS OF BULK AT MOST 1048576: true; the input reads as it did. -/
def liveOrderUptoRow : OpenClaim := { program := "ytafcnehinanecaa", sum := "2404cc9ee882eabcdd253e180f4b4b3cb515aca16d0d2f7a30ebf24372094456", func := "sieve/sievelaw18.LiveOrder", spec := "liveOrder", unfollowed := true, recurses := true, apart := false, narrowed := true }
def LiveOrderUptoSaid : Prop := liveOrderUptoRow.holds Try.pinned (OpenSpec.upto liveOrderSpec)

end Rows
end Go.Proofs.Ytafcnehinanecaa
