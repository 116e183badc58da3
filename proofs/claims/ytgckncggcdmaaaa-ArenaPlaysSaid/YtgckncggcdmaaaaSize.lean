/- How long a slice that came in may be. -/
import Derived.Test.YtgckncggcdmaaaaKit
namespace Go.Proofs.Ytgckncggcdmaaaa
open Go.ChangeShapes Go.WideShapes Go.ChangeAt Go.RowKit Go.Deep
theorem rows_size {H : Type} {enc : TypeId × Value → H} {P : Program} {ts : List TypeId} {ds : List (DataW H)} {w : World} {j : Nat} {t e : TypeId} {d : DataW H} {p : List MemPlace} {A : Option Addr} {len cap : Nat}
    (hsz : (DataW.weightsEach P ts ds).all (· ≤ reachBytes) = true) (htj : ts[j]? = some t) (hdj : ds[j]? = some d) (ht : P.underlying t = some (.slice e)) (h : DataW.Trod enc P w 0 (fun _ => true) true t (.slice A len cap) d p) : len * P.bytesOf e ≤ 140737488351232 := by
  obtain ⟨fuel, hf⟩ := h
  have hr : reachBytes = 140737488351232 := by decide
  rcases open_slice ht hf with ⟨hcs, _⟩ | ⟨a, len', cap', m, n, D, Pl, hcs, _, hl, hm, hmm, hx, _⟩
  · simp [Value.cells] at hcs
    obtain ⟨_, rfl, _⟩ := hcs
    omega
  · simp [Value.cells] at hcs
    obtain ⟨_, rfl, _⟩ := hcs
    have hd : d = .slice ((List.range len).map D) ((List.range (m - len)).map fun j => D (len + j)) := (Prod.mk.inj hx).1
    have := sized_slice hsz htj (by rw [hdj, hd]) ht
    rw [hr, List.length_map, List.length_range, Nat.add_mul] at this
    omega
end Go.Proofs.Ytgckncggcdmaaaa
