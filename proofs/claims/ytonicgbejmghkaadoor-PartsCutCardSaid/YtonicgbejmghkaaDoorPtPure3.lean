/- Rows of sets that cut alike. -/
import Derived.Test.YtonicgbejmghkaaDoorPtCopy
namespace Go.Proofs.YtonicgbejmghkaaDoor
theorem findIdx_congr {α : Type} {p q : α → Bool} : ∀ {L : List α}, (∀ a ∈ L, p a = q a) → L.findIdx p = L.findIdx q
  | [], _ => rfl
  | a :: L, h => by
    rw [List.findIdx_cons, List.findIdx_cons, h a (by simp), findIdx_congr fun b hb => h b (by simp [hb])]
theorem cl_congr {l m : List (Nat → Nat)} (h : ∀ a b, a < 256 → b < 256 → same l a b = same m a b) {b : Nat} (hb : b < 256) : cl l b = cl m b := by
  unfold cl clsR
  rw [reps_congr h 256 (Nat.le_refl _)]
  exact findIdx_congr fun a ha => h a b (reps_lt _ _ a ha) hb
theorem nc_congr {l m : List (Nat → Nat)} (h : ∀ a b, a < 256 → b < 256 → same l a b = same m a b) : nc l = nc m := by
  unfold nc
  rw [reps_congr h 256 (Nat.le_refl _)]
theorem rm_congr {l m : List (Nat → Nat)} (h : ∀ a b, a < 256 → b < 256 → same l a b = same m a b) : rmV l = rmV m := by
  unfold rmV bytesV
  rw [List.map_congr_left fun b hb => cl_congr h (by simpa using hb)]
theorem same_app (l m : List (Nat → Nat)) (a b : Nat) : same (l ++ m) a b = (same l a b && same m a b) := by unfold same; rw [List.all_append]
theorem same_nots {l : List (Nat → Nat)} (ho : ∀ S ∈ l, okS S) (a b : Nat) : same (l.map notS) a b = same l a b := by
  rw [Bool.eq_iff_iff, same_iff, same_iff]
  constructor
  · intro h S hS
    have := h (notS S) (List.mem_map.2 ⟨S, hS, rfl⟩)
    rw [has_not (ho S hS), has_not (ho S hS)] at this
    revert this
    cases has S a <;> cases has S b <;> simp
  · intro h T hT
    obtain ⟨S, hS, rfl⟩ := List.mem_map.1 hT
    rw [has_not (ho S hS), has_not (ho S hS), h S hS]
/-- The classes' bytes, one after the other. -/
def clsL (l : List (Nat → Nat)) (n : Nat) : List (Nat → Nat) := (List.range n).map fun c => clSet l (c : Nat)
theorem clsL_len (l : List (Nat → Nat)) (n : Nat) : (clsL l n).length = n := by unfold clsL; simp
theorem clsL_succ (l : List (Nat → Nat)) (n : Nat) : clsL l (n + 1) = clsL l n ++ [clSet l (n : Nat)] := by unfold clsL; rw [List.range_succ, List.map_append]; rfl
theorem clsL_ok {l : List (Nat → Nat)} (ho : ∀ S ∈ l, okS S) (n : Nat) : ∀ S ∈ clsL l n, okS S := by
  intro S hS
  obtain ⟨c, _, rfl⟩ := List.mem_map.1 hS
  exact clSet_ok ho _
theorem same_cls {l : List (Nat → Nat)} (ho : ∀ S ∈ l, okS S) {a b : Nat} (ha : a < 256) (hb : b < 256) : same (clsL l (nc l)) a b = same l a b := by
  rw [Bool.eq_iff_iff, same_iff, ← cl_iff l ha hb]
  constructor
  · intro h
    have hc := cl_lt l ha
    have := h (clSet l (cl l a : Nat)) (List.mem_map.2 ⟨cl l a, by simpa using hc, rfl⟩)
    rw [clSet_at ho hc ha, clSet_at ho hc hb] at this
    simp at this
    exact this.symm
  · intro h S hS
    obtain ⟨c, hc, rfl⟩ := List.mem_map.1 hS
    have hc' : c < nc l := by simpa using hc
    rw [clSet_at ho hc' ha, clSet_at ho hc' hb, h]
theorem nots_ok {l : List (Nat → Nat)} : ∀ S ∈ l.map notS, okS S := by
  intro S hS
  obtain ⟨T, _, rfl⟩ := List.mem_map.1 hS
  exact not_ok
theorem app_ok {l m : List (Nat → Nat)} (hl : ∀ S ∈ l, okS S) (hm : ∀ S ∈ m, okS S) : ∀ S ∈ l ++ m, okS S := by
  intro S hS
  rcases List.mem_append.1 hS with h | h
  · exact hl S h
  · exact hm S h
theorem rm_list (l : List (Nat → Nat)) : (rmV l).toList.toArray = rmV l := Array.toArray_toList
end Go.Proofs.YtonicgbejmghkaaDoor
