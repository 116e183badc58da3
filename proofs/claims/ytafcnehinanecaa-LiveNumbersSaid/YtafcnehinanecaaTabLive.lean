/- Which states are live: plain; rows of Booleans in memory. -/
import Derived.Test.YtafcnehinanecaaTabPush
namespace Go.Proofs.Ytafcnehinanecaa
open Go.RowKit
def bools (l : List Bool) : Array Value := (l.map Value.bool).toArray
theorem bools_size (l : List Bool) : (bools l).size = l.length := by unfold bools; simp
theorem bools_at {l : List Bool} {i : Nat} (hi : i < l.length) : (bools l)[i]? = some (.bool (l.getD i false)) := by
  unfold bools
  rw [List.getElem?_toArray, List.getElem?_map, List.getElem?_eq_getElem hi, List.getD_eq_getElem?_getD, List.getElem?_eq_getElem hi]; rfl
theorem bools_set (l : List Bool) (i : Nat) (b : Bool) : (bools l).setIfInBounds i (.bool b) = bools (l.set i b) := by
  unfold bools; apply Array.ext'; simp [List.map_set]
theorem info_bool : (Try.prog.info? 4).map (fun i => (i.zero, i.size, i.bytes)) = some (some (.bool false), 1, 1) := by kernel_rfl
theorem made_bools (k : Nat) : madeCells (Value.bool false).cells k = bools (List.replicate k false) := by
  apply Array.ext'
  unfold madeCells bools
  rw [List.map_replicate]
  apply List.ext_getElem
  · simp
  · intro i h1 h2
    simp [Value.cells, Nat.mod_one]
theorem run_make_bools (n : Nat) (h : n ≤ 65536) (w : World) : (Instr.makeSlice 45 (.int .i64 (n : Nat)) (.int .i64 (n : Nat))).run Try.prog w = .ok (.slice (some ⟨w.heap.size, 0, none⟩) n n) (w.alloc (.cells (bools (List.replicate n false)) 4)) := by
  obtain ⟨i0, hi, hz0, hz1, hz2⟩ := info_parts info_bool
  have := run_makeSlice (P := Try.prog) (w := w) 45 4 i0 (.bool false) Try.underlying45 hi hz0 .i64 .i64 (n : Int) (n : Int) (by omega) (by omega) (by rw [hz1]; omega) (by rw [hz2]; omega) (by omega)
  rw [this, hz1, show ((n : Int)).toNat = n from rfl, Nat.mul_one, made_bools]
def hasB (l : List Bool) (k : Int) : Bool := decide (0 ≤ k) && l.getD k.toNat false
def condB (T : Tb) (l : List Bool) (i : Nat) : Bool := decide (0 ≤ tagI T i) || (rowI T i).any (hasB l)
def SoundL (T : Tb) (l : List Bool) : Prop := l.length = T.next.length ∧ ∀ i, l.getD i false = true → Live T i
theorem sound_start (T : Tb) : SoundL T (List.replicate T.next.length false) := ⟨by simp, fun i h => by
  rw [List.getD_eq_getElem?_getD, List.getElem?_replicate] at h; split at h <;> simp at h⟩
theorem condB_live {T : Tb} {l : List Bool} (h : SoundL T l) {i : Nat} (hi : i < T.next.length) (hc : condB T l i = true) : Live T i := by
  unfold condB at hc
  rw [Bool.or_eq_true] at hc
  rcases hc with hc | hc
  · exact .acc i hi (by simpa using hc)
  · obtain ⟨k, hk, hb⟩ := List.any_eq_true.1 hc
    unfold hasB at hb
    rw [Bool.and_eq_true, decide_eq_true_eq] at hb
    exact .step i k.toNat hi (by rw [Int.toNat_of_nonneg hb.1]; exact hk) (h.2 _ hb.2)
theorem sound_set {T : Tb} {l : List Bool} (h : SoundL T l) {i : Nat} (hl : Live T i) : SoundL T (l.set i true) := by
  refine ⟨by rw [List.length_set]; exact h.1, fun j hj => ?_⟩
  rw [List.getD_eq_getElem?_getD, List.getElem?_set] at hj
  by_cases e : i = j
  · subst e; exact hl
  · rw [if_neg e] at hj; exact h.2 j (by rw [List.getD_eq_getElem?_getD]; exact hj)
theorem count_set {l : List Bool} {i : Nat} (hi : i < l.length) (h : l.getD i false = false) : (l.set i true).count false < l.count false := by
  rw [List.getD_eq_getElem?_getD, List.getElem?_eq_getElem hi] at h
  have h' : l[i] = false := h
  rw [List.count_set hi]
  simp [h']
  have : 0 < l.count false := List.count_pos_iff.2 (h' ▸ List.getElem_mem hi)
  omega
theorem closed_live {T : Tb} {l : List Bool} (hc : ∀ i, i < T.next.length → condB T l i = true → l.getD i false = true) {i : Nat} (h : Live T i) : l.getD i false = true := by
  induction h with
  | acc i hi ht => exact hc i hi (by unfold condB; rw [decide_eq_true ht]; rfl)
  | step i k hi hk _ ih =>
    refine hc i hi ?_
    unfold condB
    rw [Bool.or_eq_true]
    refine .inr (List.any_eq_true.2 ⟨_, hk, ?_⟩)
    unfold hasB
    rw [Bool.and_eq_true]
    exact ⟨by simp, ih⟩
noncomputable def liveL (T : Tb) : List Bool := (List.range T.next.length).map (liveB T)
theorem liveL_len (T : Tb) : (liveL T).length = T.next.length := by unfold liveL; simp
theorem liveL_at {T : Tb} {i : Nat} (hi : i < T.next.length) : (liveL T).getD i false = liveB T i := by
  unfold liveL
  rw [List.getD_eq_getElem?_getD, List.getElem?_map, List.getElem?_range hi]; rfl
theorem live_list {T : Tb} {l : List Bool} (h : SoundL T l) (hc : ∀ i, i < T.next.length → condB T l i = true → l.getD i false = true) : l = liveL T := by
  apply List.ext_getElem
  · rw [h.1, liveL_len]
  · intro i h1 h2
    have e1 : l[i] = l.getD i false := by rw [List.getD_eq_getElem?_getD, List.getElem?_eq_getElem h1]; rfl
    have e2 : (liveL T)[i] = (liveL T).getD i false := by rw [List.getD_eq_getElem?_getD, List.getElem?_eq_getElem h2]; rfl
    rw [liveL_len] at h2
    rw [e1, e2, liveL_at h2, Bool.eq_iff_iff, liveB_iff]
    exact ⟨h.2 i, closed_live hc⟩
/-- The numbers at which a row of Booleans holds. -/
def trues (l : List Bool) (n : Nat) : List Int := ((List.range n).filter fun i => l.getD i false).map Int.ofNat
theorem trues_succ (l : List Bool) (n : Nat) : trues l (n + 1) = if l.getD n false then trues l n ++ [(n : Int)] else trues l n := by
  unfold trues
  rw [List.range_succ, List.filter_append, List.map_append]
  cases h : l.getD n false with
  | false => rw [List.filter_cons, if_neg (by rw [h]; simp)]; simp
  | true => rw [List.filter_cons, if_pos h]; rfl
theorem trues_len (l : List Bool) (n : Nat) : (trues l n).length ≤ n := by
  unfold trues
  rw [List.length_map]
  exact Nat.le_trans (List.length_filter_le ..) (by simp)
theorem trues_live (T : Tb) : trues (liveL T) T.next.length = usefulL T := by
  unfold trues usefulL
  congr 1
  apply List.filter_congr
  intro i hi
  exact liveL_at (by simpa using hi)
end Go.Proofs.Ytafcnehinanecaa
