/- An argument that is a slice of whole numbers. -/
import Derived.Test.YtafcnehinanecaaRef03
import Derived.ChangeSlices
namespace Go.Proofs.Ytafcnehinanecaa
open Go.ChangeShapes Go.WideShapes Go.ChangeAt Go.RowKit Go.Deep
theorem cell_block {w : World} {a : Addr} {v : Value} (h : w.cell? a = some v) : a.spot = none ∧ a.block < w.heap.size := by
  unfold World.cell? at h
  cases hh : w.heap[a.block]? with
  | none => rw [hh] at h; cases h
  | some o =>
    refine ⟨?_, (Array.getElem?_eq_some_iff.1 hh).1⟩
    rw [hh] at h
    cases o <;> first | (cases h; done) | skip
    cases hsp : a.spot with
    | none => rfl
    | some q => simp [hsp] at h
theorem add_zero' (a : Addr) : a.add 0 = a := by simp [Addr.add]
theorem add_at (b o i : Nat) : (⟨b, o, none⟩ : Addr).add i = ⟨b, o + i, none⟩ := by
  unfold Addr.add; split
  · rename_i h; rw [h]; rfl
  · rfl
theorem open_intsAt {H : Type} {enc : TypeId × Value → H} {P : Program} {w : World} {r : Reach} {b0 : Nat} {t e : TypeId} {v : Value} {d : DataW H} {p : List MemPlace} (ht : P.underlying t = some (.slice e)) (he : P.underlying e = some (.int .i64)) (hC : P.cellsOf e = 1)
    (hv : Value.okWide P w r b0 t v) (h : DataW.Trod enc P w 0 (fun _ => true) true t v d p) : ∃ L : List Int, IntsAt w 0 v L ∧ ∀ n ∈ L, (Lit.int .i64 n).wf = true := by
  obtain ⟨A, len, cap, rfl⟩ := okWide_slice ht hv
  obtain ⟨fuel, hf⟩ := h
  rcases open_ints ht he hC hf with ⟨hcs, _⟩ | ⟨a, len', cap', zs, hcs, _, hl, hm, hz, _, hi, hwf⟩
  · simp [Value.cells] at hcs
    obtain ⟨rfl, rfl, rfl⟩ := hcs
    exact ⟨[], IntsAt.zero _ _ _ _ (fun _ => rfl), by simp⟩
  · simp [Value.cells] at hcs
    obtain ⟨rfl, rfl, rfl⟩ := hcs
    simp at hz
    have hlen : (zs.take len).length = len := by rw [List.length_take]; omega
    refine ⟨zs.take len, ⟨some a, cap, by rw [hlen], (fun e => by cases e), fun h0 => ?_⟩, fun n hn => hwf n (List.mem_of_mem_take hn)⟩
    rw [hlen] at h0
    have c0 := hi 0 (by omega)
    rw [add_zero'] at c0
    obtain ⟨hs, hb⟩ := cell_block c0
    obtain ⟨bb, oo, ss⟩ := a
    obtain rfl : ss = none := hs
    refine ⟨bb, oo, rfl, Nat.zero_le _, hb, fun i hi' => ?_⟩
    have h1 := hi i (by rw [hlen] at hi'; omega)
    rw [add_at] at h1
    rw [h1, List.getElem_take]
    simp [List.getD, List.getElem?_eq_getElem (show i < zs.length by rw [hlen] at hi'; omega)]
end Go.Proofs.Ytafcnehinanecaa
