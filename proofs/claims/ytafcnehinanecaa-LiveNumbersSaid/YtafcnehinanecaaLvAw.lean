/- The law's small table: what it answers. -/
import Derived.Test.YtafcnehinanecaaLvSmall
namespace Go.Proofs.Ytafcnehinanecaa
open Go.RowKit
def T1 : Tb := ⟨2, 0, m97, [[1, 2], [1, 1], [3, 0], [-1, 3]], [-1, -1, 0, -1]⟩
theorem t1_rows : ∀ r ∈ ([[1, 2], [1, 1], [3, 0], [-1, 3]] : List (List Int)), (r.length : Int) = 2 := by decide
theorem t1_tags : ∀ x ∈ ([-1, -1, 0, -1] : List Int), -1 ≤ x ∧ x ≤ 7 := by decide
theorem t1_goes : ∀ r ∈ ([[1, 2], [1, 1], [3, 0], [-1, 3]] : List (List Int)), ∀ x ∈ r, -1 ≤ x ∧ x < (4 : Nat) := by decide
theorem t1_right : RightP T1 where
  c1 := by decide
  c2 := by decide
  n3 := by decide
  nt := by decide
  s1 := by decide
  s2 := by decide
  s3 := by decide
  bs := fun j h => by
    have : T1.remap[j] < 2 := m97_lt _ (List.getElem_mem h)
    show ((T1.remap[j] : Nat) : Int) < 2
    omega
  rows := fun i h => t1_rows _ (List.getElem_mem h)
  tags := fun i h => t1_tags _ (List.getElem_mem h)
  goes := fun i h k hk => t1_goes _ (List.getElem_mem h) _ (List.getElem_mem hk)
theorem t1_live : [true, false, true, false] = liveL T1 := by
  refine live_list ⟨rfl, fun i h => ?_⟩ fun i hi hc => ?_
  · have l2 : Live T1 2 := .acc 2 (by decide) (by decide)
    match i with
    | 0 => exact .step 0 2 (by decide) (by decide) l2
    | 1 => exact nomatch h
    | 2 => exact l2
    | 3 => exact nomatch h
    | n + 4 => exact nomatch h
  · have hi : i < 4 := hi
    match i, hi with
    | 0, _ => rfl
    | 1, _ => exact nomatch hc
    | 2, _ => rfl
    | 3, _ => exact nomatch hc
theorem t1_order : order T1 allM = [0, 1, 2, 3] := by
  show order T1 (fun _ => true) = _
  decide
theorem t1_met : order T1 (liveM T1) = [0, 2] := by
  rw [order_congr t1_right (may' := fun k => [true, false, true, false].getD k.toNat false) fun k _ _ => by rw [useful_may, ← t1_live]]
  decide
theorem t1_useful : usefulL T1 = [0, 2] := by
  rw [← trues_live, ← t1_live]; rfl
theorem t1_trim : trimT T1 = ⟨2, 0, m97, [[-1, 1], [-1, 0]], [-1, 0]⟩ := by
  rw [trimT_eq, t1_met]; rfl
theorem t1_number : numberT T1 [2, 0] = ⟨2, 1, m97, [[-1, 1], [-1, 0]], [0, -1]⟩ := rfl
theorem t1_may : MayP T1 [2, 0] := ⟨by decide, by decide, .inr (by decide)⟩
theorem t1_may1 : ¬ MayP T1 [1] := fun h => by
  rcases h.2.2 with e | e
  · exact nomatch e
  · exact absurd e (by decide)
theorem t0_wrong : ¬ RightP T0 := fun h => absurd h.c1 (by decide)
theorem t1_sort : sortI [0, 1, 2, 3] = [0, 1, 2, 3] := by
  unfold sortI
  exact List.mergeSort_of_pairwise (by decide)
end Go.Proofs.Ytafcnehinanecaa
