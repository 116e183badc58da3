/- live.number's closure: another number of a state. -/
import Derived.Test.YtafcnehinanecaaLvPure
import Derived.Test.YtafcnehinanecaaLvMeet
namespace Go.Proofs.Ytafcnehinanecaa
open Go.RowKit
def atOf (n : Nat) (l : List Int) : List Int := (List.range (n + 1)).map fun (k : Nat) => place l (k : Int)
theorem atOf_len (n : Nat) (l : List Int) : (atOf n l).length = n + 1 := by unfold atOf; simp
theorem atOf_at (n : Nat) (l : List Int) {k : Nat} (h : k < n + 1) : (atOf n l)[k]? = some (place l (k : Int)) := by
  unfold atOf; rw [List.getElem?_map, List.getElem?_range h]; rfl
theorem atOf_nil (n : Nat) : atOf n [] = List.replicate (n + 1) (-1) := by
  refine List.ext_getElem? fun k => ?_
  by_cases h : k < n + 1
  · rw [atOf_at n _ h, List.getElem?_replicate, if_pos h, place_none (by simp)]
  · rw [List.getElem?_eq_none (by rw [atOf_len]; omega), List.getElem?_eq_none (by simp; omega)]
theorem atOf_set {n : Nat} {l : List Int} (hd : l.Nodup) (hin : ∀ x ∈ l, 0 ≤ x ∧ x < (n : Int)) {i : Nat} (hi : i < l.length) : (atOf n (l.take i)).set l[i].toNat i = atOf n (l.take (i + 1)) := by
  obtain ⟨a, b⟩ := hin _ (List.getElem_mem hi)
  have hs : l[i].toNat < n + 1 := by omega
  have hdt : (l.take (i + 1)).Nodup := hd.sublist (List.take_sublist ..)
  have hti : i < (l.take (i + 1)).length := by rw [List.length_take]; omega
  refine List.ext_getElem? fun k => ?_
  by_cases h : k < n + 1
  · rw [atOf_at n _ h]
    by_cases e : l[i].toNat = k
    · rw [e, List.getElem?_set_self (by rw [atOf_len]; exact h)]
      have := place_nth hdt hti
      rw [List.getElem_take] at this
      rw [show (k : Int) = l[i] by omega, this]
    · rw [List.getElem?_set_ne e, atOf_at n _ h]
      congr 1
      by_cases hm : (k : Int) ∈ l.take i
      · obtain ⟨j, hj, ej⟩ := List.getElem_of_mem hm
        have hdj : (l.take i).Nodup := hd.sublist (List.take_sublist ..)
        have h1 := place_nth hdj hj
        rw [ej] at h1
        have hj2 : j < (l.take (i + 1)).length := by rw [List.length_take] at hj ⊢; omega
        have h2 := place_nth hdt hj2
        rw [List.getElem_take] at h2 ej
        rw [ej] at h2
        rw [h1, h2]
      · rw [place_none hm, place_none]
        rw [List.take_succ_eq_append_getElem hi, List.mem_append, List.mem_singleton]
        rintro (h1 | h1)
        · exact hm h1
        · omega
  · rw [List.getElem?_eq_none (by rw [List.length_set, atOf_len]; omega), List.getElem?_eq_none (by rw [atOf_len]; omega)]
structure ToAt (w : World) (i5 ab : Nat) (A : List Int) : Prop where
  hi : Blk w i5 24 #[.slice (some ⟨ab, 0, none⟩) A.length A.length]
  hb : Blk w ab 3 (ints A).toArray
  ne : i5 ≠ ab
theorem ToAt.below {w w' : World} {i5 ab : Nat} {A : List Int} (h : ToAt w i5 ab A) (k : Below w.heap.size w w') : ToAt w' i5 ab A := ⟨h.hi.below k, h.hb.below k, h.ne⟩
theorem entTo : ∀ (args : Array Value) (w : World), (callFunc 46 args).run Try.prog w = .ok (.enter 46 args) w := enters_of Try.func46 (by kernel_rfl) rfl
attribute [local irreducible] Calls
theorem to_c (n : Nat) (l : List Int) (hin : ∀ x ∈ l, 0 ≤ x ∧ x < (n : Int)) (k : Int) (hk : k < n) (i5 ab : Nat) (w : World) (h : ToAt w i5 ab (atOf n l)) :
    Calls Try.prog 46 #[.int .i64 k, .pointer (some ⟨i5, 0, none⟩)] w fun e w' => e = .returned (.int .i64 (place l k)) ∧ Below w.heap.size w w' := by
  by_cases h0 : 0 ≤ k
  · obtain ⟨kn, rfl⟩ := Int.eq_ofNat_of_zero_le h0
    have ci := h.hi.cell 0
    simp at ci
    rw [atOf_len] at ci
    have ck : w.cell? ⟨ab, kn, none⟩ = some (.int .i64 (place l kn)) := (h.hb.cell kn).trans (by
      unfold ints
      rw [List.getElem?_toArray, List.getElem?_map, atOf_at n l (by omega)]; rfl)
    have t1 : decide (kn < n + 1) = true := by simp; omega
    generalize place l kn = x at *
    clear h
    go_enter Try.func46, Try.ntmps46
    go_wp2_with fail
    go_returns
    exact ⟨rfl, Below.refl _ _⟩
  · have t1 : decide (k < 0) = true := by simp; omega
    have HX := Lib.hid (show place l k = -1 from place_none fun hm => by have := (hin k hm).1; omega)
    clear h
    go_enter Try.func46, Try.ntmps46
    go_wp2_with fail
    go_returns
    exact ⟨by rw [HX.out]; rfl, Below.refl _ _⟩
end Go.Proofs.Ytafcnehinanecaa
