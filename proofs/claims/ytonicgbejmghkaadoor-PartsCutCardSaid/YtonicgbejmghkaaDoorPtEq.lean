/- Rows of 256 bytes held against each other. -/
import Derived.Test.YtonicgbejmghkaaDoorPtAwake
import Derived.ChangeKeysEq
namespace Go.Proofs.YtonicgbejmghkaaDoor
open Go.RowKit
theorem bytesV_at (m : List Nat) {i : Nat} (hi : i < m.length) : (bytesV m)[i]? = some (.int .u8 (m[i] : Nat)) := by
  unfold bytesV
  rw [List.getElem?_toArray, List.getElem?_map, List.getElem?_eq_getElem hi]; rfl
theorem part_u8 (V : Array Value) (i : Nat) (n : Int) (h : V[i]? = some (.int .u8 n)) (w : World) : (part 5 V i).run Tryd.prog w = .ok (.int .u8 n) w := by
  have hA := Tryd.isAgg5
  simp [part, go_sem, h, hA]
theorem items_same (m : List Nat) (w : World) : ∀ is : List Nat, (∀ i ∈ is, i < m.length) → (Op.eqItems 9999 5 (Tryd.prog.cellsOf 5) (bytesV m) (bytesV m) is).run Tryd.prog w = .ok true w
  | [], _ => rfl
  | i :: is, h => by
    have hi := h i (by simp)
    have e1 : Tryd.prog.cellsOf 5 = 1 := by kernel_rfl
    have hp := part_u8 (bytesV m) i _ (bytesV_at m hi) w
    have ih := items_same m w is fun j hj => h j (by simp [hj])
    rw [e1] at ih ⊢
    simp only [Op.eqItems, Sem.run_bind, Nat.mul_one, hp, Result.andThen_ok, run_equalIn_int w 9998 5 .u8 .u8 _ _ Tryd.underlying5]
    simpa using ih
theorem bytes_same (m : List Nat) (h : m.length = 256) (w : World) : (Op.equalIn 10000 29 (.agg (bytesV m)) (.agg (bytesV m))).run Tryd.prog w = .ok true w := by
  obtain ⟨i, hi⟩ : ∃ i, Tryd.prog.info? 5 = some i := Option.isSome_iff_exists.1 (by kernel_rfl)
  rw [run_equalIn_array w 9999 _ _ Tryd.underlying29 hi]
  exact items_same m w _ fun j hj => by rw [h]; simpa using hj
theorem rm_same (l : List (Nat → Nat)) (w : World) : (Op.equalIn 10000 29 (.agg (rmV l)) (.agg (rmV l))).run Tryd.prog w = .ok true w := bytes_same _ (by simp) w
theorem rm_zero (w : World) : (Op.equalIn 10000 29 (.agg (bytesV (List.replicate 256 0))) (.agg (bytesV (List.replicate 256 0)))).run Tryd.prog w = .ok true w := bytes_same _ List.length_replicate w
end Go.Proofs.YtonicgbejmghkaaDoor
