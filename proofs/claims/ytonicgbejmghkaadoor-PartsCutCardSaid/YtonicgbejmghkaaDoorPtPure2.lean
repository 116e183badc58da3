/- More on the classes of sets: how many bytes, how many sets. -/
import Derived.Test.YtonicgbejmghkaaDoorPtPure
namespace Go.Proofs.YtonicgbejmghkaaDoor
theorem sum_step {α : Type} (f g : α → Nat) : ∀ K : List α, (K.map fun S => f S + g S).sum = (K.map f).sum + (K.map g).sum
  | [] => rfl
  | S :: K => by simp only [List.map_cons, List.sum_cons, sum_step f g K]; omega
theorem sum_if {α : Type} (p : α → Bool) : ∀ K : List α, (K.map fun S => if p S = true then 1 else 0).sum = (K.filter p).length
  | [] => rfl
  | S :: K => by
    simp only [List.map_cons, List.sum_cons, sum_if p K, List.filter_cons]
    split <;> simp <;> omega
theorem sum_cnt {K : List (Nat → Nat)} (h : ∀ b, b < 256 → (K.filter fun S => has S b).length = 1) : ∀ n, n ≤ 256 → (K.map fun S => cntB (has S) n).sum = n
  | 0, _ => by
    have : (K.map fun S => cntB (has S) 0) = K.map fun _ => 0 := rfl
    rw [this]
    clear h this
    induction K with
    | nil => rfl
    | cons S K ih => simp [ih]
  | n + 1, hn => by
    have e : (K.map fun S => cntB (has S) (n + 1)) = K.map fun S => cntB (has S) n + if has S n = true then 1 else 0 := rfl
    rw [e, sum_step, sum_cnt h n (by omega), sum_if, h n (by omega)]
theorem one_of {K : List (Nat → Nat)} (hall : ∀ b, b < 256 → ∃ S ∈ K, has S b = true) (hone : K.Pairwise fun S T => ∀ b, b < 256 → ¬ (has S b = true ∧ has T b = true)) (b : Nat) (hb : b < 256) : (K.filter fun S => has S b).length = 1 := by
  obtain ⟨S, hS, hSb⟩ := hall b hb
  have hm : S ∈ K.filter fun S => has S b := List.mem_filter.2 ⟨hS, hSb⟩
  have hp := hone.filter fun S => has S b
  have ha : ∀ T ∈ K.filter fun S => has S b, has T b = true := fun T hT => (List.mem_filter.1 hT).2
  generalize K.filter (fun S => has S b) = F at *
  match F, hm, hp, ha with
  | [], hm, _, _ => cases hm
  | [x], _, _, _ => rfl
  | x :: y :: F, _, hp, ha => exact absurd ⟨ha x (by simp), ha y (by simp)⟩ ((List.pairwise_cons.1 hp).1 y (by simp) b hb)
theorem part_sum {l K : List (Nat → Nat)} (h : Part l K) : (K.map cntS).sum = 256 := sum_cnt (one_of h.all h.one) 256 (Nat.le_refl _)
theorem len_le_sum : ∀ K : List (Nat → Nat), (∀ S ∈ K, 0 < cntS S) → K.length ≤ (K.map cntS).sum
  | [], _ => Nat.le_refl _
  | S :: K, h => by
    have := len_le_sum K fun T hT => h T (by simp [hT])
    have := h S (by simp)
    simp only [List.length_cons, List.map_cons, List.sum_cons]; omega
theorem part_len {l K : List (Nat → Nat)} (h : Part l K) (hne : ∀ S ∈ K, 0 < cntS S) : K.length ≤ 256 := by
  have := len_le_sum K hne
  rw [part_sum h] at this
  exact this
theorem cutSets_ne {K : List (Nat → Nat)} {a : Nat → Nat} : ∀ S ∈ cutSets K a, 0 < cntS S := by
  intro T hT
  obtain ⟨S, hS, hT⟩ := List.mem_flatMap.1 hT
  exact (mem_cutOne.1 hT).2
theorem cutAll_snoc (l : List (Nat → Nat)) (a : Nat → Nat) : cutAll (l ++ [a]) = cutSets (cutAll l) a := by unfold cutAll; rw [List.foldl_append]; rfl
theorem cutAll_ne (l : List (Nat → Nat)) : ∀ S ∈ cutAll l, 0 < cntS S := by
  rcases List.eq_nil_or_concat l with rfl | ⟨m, a, rfl⟩
  · intro S hS
    rw [List.mem_singleton.1 (show S ∈ [ofS 0 256] from hS)]
    exact cntS_pos.2 ⟨0, by omega, has_whole 0 (by omega)⟩
  · rw [List.concat_eq_append, cutAll_snoc]; exact cutSets_ne
theorem cutAll_len (l : List (Nat → Nat)) (ho : ∀ S ∈ l, okS S) : (cutAll l).length ≤ 256 := part_len (part_all l ho) (cutAll_ne l)
theorem cutAll_take {l : List (Nat → Nat)} {i : Nat} (hi : i < l.length) : cutAll (l.take (i + 1)) = cutSets (cutAll (l.take i)) l[i] := by
  rw [List.take_succ_eq_append_getElem hi, cutAll_snoc]
theorem cutOne_eq (S a : Nat → Nat) : cutOne S a = [andS S a, andS S (notS a)].filter fun T => decide (0 < cntS T) := by
  unfold cutOne
  simp only [List.filter_cons, List.filter_nil]
  by_cases h : 0 < cntS (andS S a) <;> by_cases g : 0 < cntS (andS S (notS a)) <;> simp [h, g]
/-- What has been cut of the first k sets. -/
def nx (K : List (Nat → Nat)) (a : Nat → Nat) (k : Nat) : List (Nat → Nat) := (K.take k).flatMap (cutOne · a)
theorem nx_succ {K : List (Nat → Nat)} {a : Nat → Nat} {k : Nat} (hk : k < K.length) : nx K a (k + 1) = nx K a k ++ cutOne K[k] a := by
  unfold nx
  rw [List.take_succ_eq_append_getElem hk, List.flatMap_append]; simp
theorem nx_all (K : List (Nat → Nat)) (a : Nat → Nat) : nx K a K.length = cutSets K a := by unfold nx cutSets; rw [List.take_length]
theorem nx_len (K : List (Nat → Nat)) (a : Nat → Nat) (k : Nat) : (nx K a k).length ≤ (cutSets K a).length := by
  unfold nx cutSets
  conv => rhs; rw [← List.take_append_drop k K]
  rw [List.flatMap_append, List.length_append]; omega
theorem cls_one {l K : List (Nat → Nat)} (h : IsCls l K) : (K.map cntS).sum = 256 := by
  refine sum_cnt (one_of (fun b hb => ?_) ?_) 256 (Nat.le_refl _)
  · have hc : cl l b < K.length := by rw [h.len]; exact cl_lt l hb
    exact ⟨K[cl l b], List.getElem_mem hc, by rw [h.at_ _ hc b hb]; simp⟩
  · rw [List.pairwise_iff_getElem]
    rintro i j hi hj hij b hb ⟨h1, h2⟩
    rw [h.at_ i hi b hb] at h1
    rw [h.at_ j hj b hb] at h2
    simp at h1 h2
    omega
end Go.Proofs.YtonicgbejmghkaaDoor
