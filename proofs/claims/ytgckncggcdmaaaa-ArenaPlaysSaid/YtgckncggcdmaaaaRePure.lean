/- The document's arena, by itself. -/
import Derived.Test.YtgckncggcdmaaaaArPure
namespace Go.Proofs.Ytgckncggcdmaaaa
/-- Is a place no region's? -/
def freeB (l : List Rg) (i : Nat) : Bool := l.all fun r => !(decide (r.b ≤ i) && decide (i < r.b + r.n))
theorem freeB_iff {l : List Rg} {i : Nat} : freeB l i = true ↔ ∀ r ∈ l, ¬ inR r i := by
  unfold freeB inR
  rw [List.all_eq_true]
  constructor
  · intro h r hr hin
    have := h r hr
    simp at this
    omega
  · intro h r hr
    have := h r hr
    simp
    omega
theorem freeB_perm {l m : List Rg} (h : l.Perm m) (i : Nat) : freeB l i = freeB m i := by
  rw [Bool.eq_iff_iff, freeB_iff, freeB_iff]
  exact ⟨fun k r hr => k r (h.mem_iff.2 hr), fun k r hr => k r (h.mem_iff.1 hr)⟩
theorem freeB_snoc (l : List Rg) (r : Rg) (i : Nat) : freeB (l ++ [r]) i = (freeB l i && !(decide (r.b ≤ i) && decide (i < r.b + r.n))) := by unfold freeB; rw [List.all_append]; simp
/-- What is free is found, or something lower. -/
theorem gapL_of_free {size n b : Nat} (hn : 1 ≤ n) (hb : b + n ≤ size) : ∀ {l : List Rg} {at_ : Nat}, (∀ r ∈ l, 1 ≤ r.n) → (∀ r ∈ l, ∀ i, b ≤ i → i < b + n → ¬ inR r i) → at_ ≤ b → ∃ base, gapL l at_ size n = some base ∧ base ≤ b
  | [], at_, _, _, hat => ⟨at_, by unfold gapL; rw [if_pos (by omega)], hat⟩
  | r :: t, at_, h1, hf, hat => by
    unfold gapL
    by_cases h : at_ + n ≤ r.b
    · rw [if_pos h]; exact ⟨at_, rfl, hat⟩
    · rw [if_neg h]
      have hr1 := h1 r (List.mem_cons_self ..)
      have hr2 := hf r (List.mem_cons_self ..)
      refine gapL_of_free hn hb (fun s hs => h1 s (List.mem_cons_of_mem _ hs)) (fun s hs => hf s (List.mem_cons_of_mem _ hs)) ?_
      unfold inR at hr2
      have h3 := hr2 b (by omega) (by omega)
      rcases Nat.lt_or_ge r.b b with q | q
      · omega
      · have h4 := hr2 r.b q
        omega
/-- How far the document's search is: places seen, the run of free ones. -/
structure Seek (l : List Rg) (n at_ run : Nat) : Prop where
  le : run ≤ at_
  lt : run < n
  free : ∀ i, at_ - run ≤ i → i < at_ → freeB l i = true
  stop : 0 < at_ - run → freeB l (at_ - run - 1) = false
  nowin : ∀ b, b + n ≤ at_ → ∃ i, b ≤ i ∧ i < b + n ∧ freeB l i = false
theorem Seek.start (l : List Rg) {n : Nat} (hn : 1 ≤ n) : Seek l n 0 0 := ⟨Nat.le_refl _, hn, fun i _ h => absurd h (Nat.not_lt_zero _), fun h => absurd h (by omega), fun b h => absurd h (by omega)⟩
theorem Seek.taken {l : List Rg} {n at_ run : Nat} (h : Seek l n at_ run) (hf : freeB l at_ = false) : Seek l n (at_ + 1) 0 := by
  refine ⟨Nat.zero_le _, Nat.lt_of_le_of_lt (Nat.zero_le _) h.lt, fun i h1 h2 => by omega, fun _ => by simpa using hf, fun b hb => ?_⟩
  have hlt := h.lt
  by_cases e : b + n ≤ at_
  · exact h.nowin b e
  · exact ⟨at_, by omega, by omega, hf⟩
theorem Seek.one {l : List Rg} {n at_ run : Nat} (h : Seek l n at_ run) (hf : freeB l at_ = true) (hr : run + 1 ≠ n) : Seek l n (at_ + 1) (run + 1) := by
  have hle := h.le
  have hlt := h.lt
  have e : at_ + 1 - (run + 1) = at_ - run := by omega
  refine ⟨by omega, by omega, fun i h1 h2 => ?_, fun h1 => ?_, fun b hb => ?_⟩
  · by_cases q : i = at_
    · rw [q]; exact hf
    · exact h.free i (by omega) (by omega)
  · rw [e] at h1 ⊢; exact h.stop h1
  · by_cases q : b + n ≤ at_
    · exact h.nowin b q
    · exact ⟨at_ - run - 1, by omega, by omega, h.stop (by omega)⟩
/-- It is found. -/
theorem Seek.found {A : Ar} (hA : A.ok) {n at_ run : Nat} (h : Seek A.rs n at_ run) (hf : freeB A.rs at_ = true) (hr : run + 1 = n) (hs : at_ < A.size) : gapL A.rs 0 A.size n = some (at_ + 1 - n) := by
  have hle := h.le
  have hwin : ∀ i, at_ + 1 - n ≤ i → i < at_ + 1 - n + n → freeB A.rs i = true := fun i h1 h2 => by
    by_cases q : i = at_
    · rw [q]; exact hf
    · exact h.free i (by omega) (by omega)
  obtain ⟨base, hg, hb⟩ := gapL_of_free (size := A.size) (n := n) (b := at_ + 1 - n) (by omega) (by omega) (l := A.rs) (at_ := 0) (fun r hr => (hA.each r hr).1) (fun r hr i h1 h2 => (freeB_iff.1 (hwin i h1 h2)) r hr) (Nat.zero_le _)
  rw [hg]
  obtain ⟨_, g2, g3⟩ := gapL_some hA.sorted (fun r hr => ⟨Nat.zero_le _, (hA.each r hr).2.1⟩) hg
  rcases Nat.lt_or_ge base (at_ + 1 - n) with q | q
  · obtain ⟨i, i1, i2, i3⟩ := h.nowin base (by omega)
    have : freeB A.rs i = true := freeB_iff.2 fun r hr hin => by have := g3 r hr; unfold inR at hin; omega
    rw [this] at i3; cases i3
  · congr 1; omega
/-- There is none. -/
theorem Seek.end {A : Ar} (hA : A.ok) {n run : Nat} (h : Seek A.rs n A.size run) : gapL A.rs 0 A.size n = none := by
  cases hg : gapL A.rs 0 A.size n with
  | none => rfl
  | some base =>
    obtain ⟨_, g2, g3⟩ := gapL_some hA.sorted (fun r hr => ⟨Nat.zero_le _, (hA.each r hr).2.1⟩) hg
    obtain ⟨i, i1, i2, i3⟩ := h.nowin base g2
    have : freeB A.rs i = true := freeB_iff.2 fun r hr hin => by have := g3 r hr; unfold inR at hin; omega
    rw [this] at i3; cases i3
theorem Seek.perm {l m : List Rg} (hp : l.Perm m) {n at_ run : Nat} (h : Seek l n at_ run) : Seek m n at_ run :=
  ⟨h.le, h.lt, fun i h1 h2 => by rw [← freeB_perm hp]; exact h.free i h1 h2, fun h1 => by rw [← freeB_perm hp]; exact h.stop h1, fun b hb => by obtain ⟨i, i1, i2, i3⟩ := h.nowin b hb; exact ⟨i, i1, i2, by rw [← freeB_perm hp]; exact i3⟩⟩
/-- The place of a number in a list. -/
def idxOf (l : List Rg) (id : Int) : Option Nat := l.findIdx? fun r => (r.id : Int) == id
theorem idxOf_some {l : List Rg} {id : Int} {k : Nat} (h : idxOf l id = some k) : ∃ hk : k < l.length, ((l[k]).id : Int) = id := by
  unfold idxOf at h
  rw [List.findIdx?_eq_some_iff_getElem] at h
  obtain ⟨hk, h1, _⟩ := h
  exact ⟨hk, by simpa using h1⟩
theorem idxOf_none {l : List Rg} {id : Int} (h : idxOf l id = none) : ∀ r ∈ l, (r.id : Int) ≠ id := by
  unfold idxOf at h
  rw [List.findIdx?_eq_none_iff] at h
  intro r hr
  have := h r hr
  simpa using this
/-- What is in the list stands for what is in the arena. -/
theorem find_perm {A : Ar} (hA : A.ok) {l : List Rg} (hp : A.rs.Perm l) {id : Int} {k : Nat} (h : idxOf l id = some k) : ∃ hk : k < l.length, findR A.rs id = some l[k] := by
  obtain ⟨hk, h1⟩ := idxOf_some h
  refine ⟨hk, ?_⟩
  rw [← h1]
  exact findR_of hA.ids (hp.mem_iff.2 (List.getElem_mem hk))
theorem find_perm_none {A : Ar} {l : List Rg} (hp : A.rs.Perm l) {id : Int} (h : idxOf l id = none) : findR A.rs id = none := by
  unfold findR
  rw [List.find?_eq_none]
  intro r hr
  have := idxOf_none h r (hp.mem_iff.1 hr)
  simpa using this
theorem perm_free {A : Ar} (hA : A.ok) {l : List Rg} (hp : A.rs.Perm l) {k : Nat} (hk : k < l.length) : (A.rs.filter (· ≠ l[k])).Perm (l.take k ++ l.drop (k + 1)) := by
  have h1 := hp.filter (· ≠ l[k])
  refine h1.trans ?_
  have hnd : l.Nodup := hp.nodup_iff.1 (by
    have := hA.ids
    exact (List.pairwise_map.1 this).imp (fun h e => h (by rw [e])))
  have hsplit : l = l.take k ++ l[k] :: l.drop (k + 1) := by rw [← List.drop_eq_getElem_cons hk, List.take_append_drop]
  have hno1 : l[k] ∉ l.take k := fun hm => by
    obtain ⟨j, hj, e⟩ := List.getElem_of_mem hm
    rw [List.length_take] at hj
    rw [List.getElem_take] at e
    exact (List.pairwise_iff_getElem.1 hnd j k (by omega) hk (by omega)) e
  have hno2 : l[k] ∉ l.drop (k + 1) := fun hm => by
    obtain ⟨j, hj, e⟩ := List.getElem_of_mem hm
    rw [List.length_drop] at hj
    rw [List.getElem_drop] at e
    exact (List.pairwise_iff_getElem.1 hnd k (k + 1 + j) hk (by omega) (by omega)) e.symm
  have hf : l.filter (· ≠ l[k]) = l.take k ++ l.drop (k + 1) := by
    generalize hx : l[k] = x at *
    conv => lhs; rw [hsplit]
    rw [List.filter_append, List.filter_cons, if_neg (by simp), List.filter_eq_self.2, List.filter_eq_self.2]
    · intro y hy; simp; exact fun e => hno2 (e ▸ hy)
    · intro y hy; simp; exact fun e => hno1 (e ▸ hy)
  rw [hf]
end Go.Proofs.Ytgckncggcdmaaaa
