/- Parts' Remap. -/
import Derived.Test.YtonicgbejmghkaaDoorPtAt
import Derived.Deep.MidRow
import Derived.Deep.WholeRow
namespace Go.Proofs.YtonicgbejmghkaaDoor
open Go.RowKit
def bytesV (m : List Nat) : Array Value := (m.map fun n => Value.int .u8 (n : Nat)).toArray
theorem bytesV_size (m : List Nat) : (bytesV m).size = m.length := by unfold bytesV; simp
theorem bytesV_one (m : List Nat) : (bytesV m).all (·.oneCell') = true := by unfold bytesV; simp [Value.oneCell']
theorem info_r : (Tryd.prog.info? 29).map (fun i => (i.zero, i.size)) = some (some (.agg (Array.replicate 256 (.int .u8 0))), 256) := by kernel_rfl
theorem size_r (m : List Nat) (h : m.length = 256) : (Tryd.prog.info? 29).map (·.size) = some (bytesV m).size := by rw [(zero_of_info info_r).2, bytesV_size, h]
theorem zero_bytes : Array.replicate 256 (Value.int .u8 0) = bytesV (List.replicate 256 0) := by unfold bytesV; rw [List.map_replicate, List.toArray_replicate]; rfl
theorem PtR.range {w : World} {p : Nat} {m : List Nat} {K : List (Nat → Nat)} (h : PtR w p m K) : w.rangeAt p 0 (bytesV m).toList := fun j v hv => by
  obtain ⟨h0, _, u, h1, _⟩ := h
  unfold bytesV at hv
  rw [List.toList_toArray, List.getElem?_map] at hv
  cases hj : m[j]? with
  | none => rw [hj] at hv; cases hv
  | some n =>
    rw [hj] at hv
    simp at hv
    obtain ⟨hl, e⟩ := List.getElem?_eq_some_iff.1 hj
    rw [Nat.zero_add, h1.cell, ptCs_byte hl, e, hv]
theorem build_r (w : World) : (Instr.build 29 #[]).run Tryd.prog w = .ok (.agg (bytesV (List.replicate 256 0))) w := run_build w 29 #[] _ (by kernel_rfl)
theorem PtR.loads {w : World} {p : Nat} {m : List Nat} {K : List (Nat → Nat)} (h : PtR w p m K) : (loadCellsFrom ⟨p, 0, none⟩ 0 256 #[]).run Tryd.prog w = .ok (bytesV m) w := by
  have := run_loadCells_list (P := Tryd.prog) w ⟨p, 0, none⟩ (bytesV m).toList (fun j v hv => by rw [Addr.add_mid]; exact h.range j v hv)
  rw [Array.length_toList, bytesV_size, h.1, Array.toArray_toList] at this
  exact this
set_option maxHeartbeats 1000000 in
set_option maxRecDepth 100000 in
theorem remap_nil (w : World) : Calls Tryd.prog 11 #[.pointer none] w fun e w' => e = .returned (.agg (bytesV (List.replicate 256 0))) ∧ Below w.heap.size w w' := by
  have Z := (zero_of_info info_r).1
  rw [zero_bytes] at Z
  have BB := build_r
  have h0 : (List.replicate 256 0).length = 256 := List.length_replicate
  have SZ := size_r _ h0
  have ON := bytesV_one (List.replicate 256 0)
  have e4 : (bytesV (List.replicate 256 0)).size = 256 := by rw [bytesV_size, h0]
  generalize List.replicate 256 0 = z at *
  have ST := run_storeCells_new (P := Tryd.prog) w 29 (bytesV z) (bytesV z) SZ rfl ON
  have RS := fun tm (ht : tm.getD 2 undef = .pointer (some ⟨w.heap.size, 0, none⟩)) => results_cell_row Tryd.results11 tm (w.alloc (.cells (bytesV z) 29)) w.heap.size 29 (bytesV z) (0, 0) _ ht (heap_alloc_last w _) Tryd.underlying29 rfl SZ
  have B0 := Lib.hid (below_alloc (Below.refl w.heap.size w) (.cells (bytesV z) 29))
  clear SZ ON h0
  go_enter Tryd.func11, Tryd.ntmps11
  go_wp2_with fail
  exact bodyPost_ret (v := .agg (bytesV z)) (RS _ rfl) rfl ⟨rfl, B0.out⟩
set_option maxHeartbeats 1000000 in
set_option maxRecDepth 100000 in
theorem remap_c (p : Nat) (m : List Nat) (K : List (Nat → Nat)) (w : World) (h : PtR w p m K) : Calls Tryd.prog 11 #[.pointer (some ⟨p, 0, none⟩)] w fun e w' => e = .returned (.agg (bytesV m)) ∧ Below w.heap.size w w' := by
  have Z := (zero_of_info info_r).1
  rw [zero_bytes] at Z
  have h0 : (List.replicate 256 0).length = 256 := List.length_replicate
  have SM := size_r _ h.1
  have ON := bytesV_one m
  have e4 : (bytesV m).size = 256 := by rw [bytesV_size, h.1]
  have e5 : (bytesV (List.replicate 256 0)).size = (bytesV m).size := by rw [bytesV_size, bytesV_size, h0, h.1]
  generalize List.replicate 256 0 = z at *
  have ST := run_storeCells_new (P := Tryd.prog) w 29 (bytesV z) (bytesV m) SM e5 ON
  have RS := fun tm (ht : tm.getD 2 undef = .pointer (some ⟨w.heap.size, 0, none⟩)) => results_cell_row Tryd.results11 tm (w.alloc (.cells (bytesV m) 29)) w.heap.size 29 (bytesV m) (0, 0) _ ht (heap_alloc_last w _) Tryd.underlying29 rfl SM
  have RG := (h.below (below_alloc (Below.refl w.heap.size w) (.cells (bytesV z) 29))).range
  have SL : (Tryd.prog.info? 29).map (·.size) = some (bytesV m).toList.length := by rw [SM]; simp
  have RG := Lib.hid RG
  have SL := Lib.hid SL
  have B0 := Lib.hid (below_alloc (Below.refl w.heap.size w) (.cells (bytesV m) 29))
  clear SM ON h0 e5 h
  go_enter Tryd.func11, Tryd.ntmps11
  go_wp2_with fail
  refine wp_load_mid 29 _ rfl p 0 rfl (bytesV m).toList _ RG.out Tryd.underlying29 rfl SL.out ?_
  rw [Array.toArray_toList]
  go_wp2_with fail
  exact bodyPost_ret (v := .agg (bytesV m)) (RS _ rfl) rfl ⟨rfl, B0.out⟩
end Go.Proofs.YtonicgbejmghkaaDoor
