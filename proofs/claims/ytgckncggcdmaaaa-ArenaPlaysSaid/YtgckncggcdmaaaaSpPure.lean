/- The sparse set, plain Lean: its rows of cells and the numbers that are there. -/
import Derived.Test.YtgckncggcdmaaaaKit
namespace Go.Proofs.Ytgckncggcdmaaaa
structure Sp where
  n : Nat
  l : List Nat
  rows : List Int
structure Sp.ok (s : Sp) : Prop where
  size : s.rows.length = 2 * s.n
  small : s.n ≤ 65536
  nodup : s.l.Nodup
  lt : ∀ x ∈ s.l, x < s.n
  dense : ∀ i (h : i < s.l.length), s.rows[i]? = some (s.l[i] : Int)
  place : ∀ i (h : i < s.l.length), s.rows[s.n + s.l[i]]? = some (i : Int)
  nat : ∀ j, j < s.n → ∃ p : Nat, s.rows[s.n + j]? = some (p : Int)
def Sp.new (n : Nat) : Sp := ⟨n, [], List.replicate (2 * n) 0⟩
def hasL (l : List Nat) (x : Int) : Bool := l.any fun y => (y : Int) == x
def canAdd (n : Nat) (l : List Nat) (x : Int) : Bool := decide (0 ≤ x) && (decide (x < n) && !hasL l x)
def addL (n : Nat) (l : List Nat) (x : Int) : List Nat := if canAdd n l x then l ++ [x.toNat] else l
def Sp.put (s : Sp) (x : Nat) : Sp := ⟨s.n, s.l ++ [x], (s.rows.set s.l.length x).set (s.n + x) s.l.length⟩
def Sp.add (s : Sp) (x : Int) : Sp := if canAdd s.n s.l x then s.put x.toNat else s
def Sp.clear (s : Sp) : Sp := ⟨s.n, [], s.rows⟩
theorem Sp.add_l (s : Sp) (x : Int) : (s.add x).l = addL s.n s.l x := by unfold Sp.add addL; split <;> rfl
theorem Sp.add_n (s : Sp) (x : Int) : (s.add x).n = s.n := by unfold Sp.add; split <;> rfl
theorem hasL_mem (l : List Nat) (x : Nat) : hasL l (x : Int) = decide (x ∈ l) := by
  unfold hasL
  rw [Bool.eq_iff_iff, List.any_eq_true]
  simp only [beq_iff_eq, decide_eq_true_eq]
  constructor
  · rintro ⟨y, hy, e⟩
    have : y = x := by omega
    rw [← this]; exact hy
  · intro h; exact ⟨x, h, rfl⟩
theorem hasL_neg (l : List Nat) (x : Int) (h : x < 0) : hasL l x = false := by
  unfold hasL
  rw [Bool.eq_false_iff]
  intro hc
  obtain ⟨y, _, e⟩ := List.any_eq_true.1 hc
  simp only [beq_iff_eq] at e
  omega
theorem hasL_big {l : List Nat} {n : Nat} (hl : ∀ x ∈ l, x < n) (x : Int) (h : (n : Int) ≤ x) : hasL l x = false := by
  unfold hasL
  rw [Bool.eq_false_iff]
  intro hc
  obtain ⟨y, hy, e⟩ := List.any_eq_true.1 hc
  simp only [beq_iff_eq] at e
  have := hl y hy
  omega
theorem Sp.new_ok {n : Nat} (h : n ≤ 65536) : (Sp.new n).ok where
  size := by simp [Sp.new]
  small := h
  nodup := List.nodup_nil
  lt := fun x hx => by cases hx
  dense := fun i h => by simp [Sp.new] at h
  place := fun i h => by simp [Sp.new] at h
  nat := fun j hj => ⟨0, by simp only [Sp.new] at hj ⊢; rw [List.getElem?_replicate, if_pos (by omega)]; rfl⟩
theorem Sp.clear_ok {s : Sp} (h : s.ok) : s.clear.ok where
  size := h.size
  small := h.small
  nodup := List.nodup_nil
  lt := fun x hx => by cases hx
  dense := fun i h => by simp [Sp.clear] at h
  place := fun i h => by simp [Sp.clear] at h
  nat := h.nat
/-- So many different numbers below n. -/
theorem nodup_le : ∀ (n : Nat) (l : List Nat), l.Nodup → (∀ x ∈ l, x < n) → l.length ≤ n
  | 0, l, _, h => by
    cases l with
    | nil => exact Nat.le_refl _
    | cons x l => have := h x (List.mem_cons_self ..); omega
  | n + 1, l, hd, h => by
    have ih := nodup_le n (l.filter (· ≠ n)) (hd.filter _) (fun x hx => by
      rw [List.mem_filter] at hx
      have h1 := h x hx.1
      have h2 : x ≠ n := by simpa using hx.2
      omega)
    have e := List.length_eq_countP_add_countP (· ≠ n) (l := l)
    have e1 : l.countP (fun a => decide ¬decide (a ≠ n) = true) = l.count n := by
      unfold List.count
      apply List.countP_congr
      intro x _
      simp
    have e2 : l.count n ≤ 1 := List.nodup_iff_count.1 hd n
    rw [← List.countP_eq_length_filter] at ih
    rw [e1] at e
    omega
theorem Sp.len_le {s : Sp} (h : s.ok) : s.l.length ≤ s.n := nodup_le _ _ h.nodup h.lt
theorem Sp.len_lt {s : Sp} (h : s.ok) {x : Nat} (hx : x < s.n) (hn : x ∉ s.l) : s.l.length < s.n := by
  have := nodup_le s.n (x :: s.l) (List.nodup_cons.2 ⟨hn, h.nodup⟩) (fun y hy => by
    rcases List.mem_cons.1 hy with rfl | hy
    · exact hx
    · exact h.lt y hy)
  simp at this; omega
theorem Sp.put_ok {s : Sp} (h : s.ok) {x : Nat} (hx : x < s.n) (hn : x ∉ s.l) : (s.put x).ok := by
  have hl := Sp.len_lt h hx hn
  have hs := h.size
  refine ⟨by simp [Sp.put, hs], h.small, ?_, ?_, ?_, ?_, ?_⟩
  · show (s.l ++ [x]).Nodup
    rw [List.nodup_append]
    exact ⟨h.nodup, by simp, fun a ha b hb => by rcases List.mem_singleton.1 hb with rfl; intro e; exact hn (e ▸ ha)⟩
  · intro y hy
    rcases List.mem_append.1 hy with hy | hy
    · exact h.lt y hy
    · rcases List.mem_singleton.1 hy with rfl; exact hx
  · intro i hi
    have hi' : i < (s.l ++ [x]).length := hi
    have hi2 := hi'
    rw [List.length_append, List.length_singleton] at hi2
    show ((s.rows.set s.l.length x).set (s.n + x) s.l.length)[i]? = some (((s.l ++ [x])[i] : Nat) : Int)
    rw [List.getElem?_set_ne (by omega)]
    by_cases e : i = s.l.length
    · subst e
      rw [List.getElem?_set_self (by omega)]
      have e1 : (s.l ++ [x])[s.l.length]'hi' = x := by simp
      exact congrArg (fun y : Nat => some (y : Int)) e1.symm
    · rw [List.getElem?_set_ne (by omega), h.dense i (by omega)]
      have e1 : (s.l ++ [x])[i]'hi' = s.l[i]'(by omega) := List.getElem_append_left (by omega)
      exact congrArg (fun y : Nat => some (y : Int)) e1.symm
  · intro i hi
    have hi' : i < (s.l ++ [x]).length := hi
    have hi2 := hi'
    rw [List.length_append, List.length_singleton] at hi2
    show ((s.rows.set s.l.length x).set (s.n + x) s.l.length)[s.n + (s.l ++ [x])[i]]? = some (i : Int)
    by_cases e : i = s.l.length
    · subst e
      have : (s.l ++ [x])[s.l.length]'hi' = x := by simp
      rw [this, List.getElem?_set_self (by rw [List.length_set]; omega)]
    · have hil : i < s.l.length := by omega
      have e1 : (s.l ++ [x])[i]'hi' = s.l[i] := List.getElem_append_left hil
      rw [e1]
      have hm := List.getElem_mem hil
      have : s.l[i] ≠ x := fun e => hn (e ▸ hm)
      rw [List.getElem?_set_ne (by omega), List.getElem?_set_ne (by omega)]
      exact h.place i hil
  · intro j hj
    show ∃ p : Nat, ((s.rows.set s.l.length x).set (s.n + x) s.l.length)[s.n + j]? = some (p : Int)
    have hj' : j < s.n := hj
    by_cases e : j = x
    · subst e; exact ⟨s.l.length, List.getElem?_set_self (by rw [List.length_set]; omega)⟩
    · rw [List.getElem?_set_ne (by omega), List.getElem?_set_ne (by omega)]
      exact h.nat j hj'
theorem canAdd_iff {n : Nat} {l : List Nat} {x : Int} : canAdd n l x = true ↔ ∃ k : Nat, x = k ∧ k < n ∧ k ∉ l := by
  unfold canAdd
  constructor
  · intro h
    simp only [Bool.and_eq_true, decide_eq_true_eq, Bool.not_eq_true'] at h
    refine ⟨x.toNat, by omega, by omega, fun hm => ?_⟩
    have := hasL_mem l x.toNat
    rw [show ((x.toNat : Nat) : Int) = x from by omega, h.2.2] at this
    exact absurd hm (by simpa using this.symm)
  · rintro ⟨k, rfl, h1, h2⟩
    rw [hasL_mem]
    simp; exact ⟨h1, h2⟩
theorem Sp.add_ok {s : Sp} (h : s.ok) (x : Int) : (s.add x).ok := by
  unfold Sp.add
  split
  · rename_i hc
    obtain ⟨k, rfl, h1, h2⟩ := canAdd_iff.1 hc
    exact Sp.put_ok h h1 h2
  · exact h
/-- Where a number would be, and whether it is there. -/
theorem Sp.has_at {s : Sp} (h : s.ok) {x : Nat} (hx : x < s.n) : ∃ p : Nat, s.rows[s.n + x]? = some (p : Int) ∧ ((s.l.length ≤ p ∧ hasL s.l x = false) ∨ ∃ y : Nat, p < s.l.length ∧ s.rows[p]? = some (y : Int) ∧ hasL s.l x = decide (y = x)) := by
  obtain ⟨p, hp⟩ := h.nat x hx
  refine ⟨p, hp, ?_⟩
  rw [hasL_mem]
  by_cases hm : x ∈ s.l
  · right
    obtain ⟨i, hi, e⟩ := List.getElem_of_mem hm
    have h1 := h.place i hi
    rw [e, hp] at h1
    have hpi : p = i := by simp at h1; omega
    subst hpi
    exact ⟨x, hi, by rw [h.dense p hi, e], by simp [hm]⟩
  · by_cases hl : p < s.l.length
    · right
      refine ⟨s.l[p], hl, h.dense p hl, ?_⟩
      rw [decide_eq_decide]
      constructor
      · intro hc; exact absurd hc hm
      · intro e; exact absurd (e ▸ List.getElem_mem hl) hm
    · left
      exact ⟨by omega, by simpa using hm⟩
end Go.Proofs.Ytgckncggcdmaaaa
