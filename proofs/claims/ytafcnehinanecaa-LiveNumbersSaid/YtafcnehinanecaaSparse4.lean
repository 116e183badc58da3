/- The sparse set's lists, sorted; the document's. -/
import Derived.Test.YtafcnehinanecaaSparse3
import Derived.Laws.AppendOwnNone
namespace Go.Proofs.Ytafcnehinanecaa
open Go.RowKit
theorem Own.at {w : World} {base : Nat} {v : Value} {l : List Int} (h : Own w base v l) : IntsAt w base v l := IntsAt.own h
theorem own_built (w : World) : (w.alloc (.cells #[] 3)).ownsRow w.heap.size 3 1 (.slice (some ⟨w.heap.size, 0, none⟩) 0 0) 0 [] :=
  ⟨by simp, .inr ⟨w.heap.size, 0, #[], rfl, Nat.le_refl _, Blk.made _ _ _, Nat.le_refl _, by unfold maxLen; omega, rfl, by simp⟩⟩
end Go.Proofs.Ytafcnehinanecaa
