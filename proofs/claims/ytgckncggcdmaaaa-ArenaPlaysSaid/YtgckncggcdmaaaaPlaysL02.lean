/- ArenaPlays. -/
import Derived.Test.YtgckncggcdmaaaaPlays02
namespace Go.Proofs.Ytgckncggcdmaaaa
open Go.RowKit
theorem arenaPlays_c (n cl : Int) (A1 : Option Addr) (len1 cap1 : Nat) (X1 : Nat → Nat → Int) (w : World)
    (hS1 : 0 < len1 → ∃ b o, A1 = some ⟨b, o, none⟩ ∧ b < w.heap.size ∧ ∀ i, i < len1 → ∀ j, j < 4 → w.cell? ⟨b, o + (i * 4 + j), none⟩ = some (.int .i64 (X1 i j)))
    (hX1 : ∀ i, i < len1 → ∀ j, j < 4 → (Lit.int .i64 (X1 i j)).wf = true) :
    Calls Try.prog 7 #[.int .i64 n, .int .i64 cl, .slice A1 len1 cap1] w fun e w' => e = .returned (.bool true) ∧ Below w.heap.size w w' := by
  cases h1 : longB n len1 with
  | true => exact plays_big n cl A1 len1 cap1 h1 w
  | false => exact plays_main n cl A1 len1 cap1 X1 w h1 hS1 hX1
end Go.Proofs.Ytgckncggcdmaaaa
