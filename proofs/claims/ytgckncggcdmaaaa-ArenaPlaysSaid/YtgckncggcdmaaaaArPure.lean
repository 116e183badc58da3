/- The arena by itself: its regions, by where they lie; where there is room. -/
namespace Go.Proofs.Ytgckncggcdmaaaa
structure Rg where
  id : Nat
  b : Nat
  n : Nat
deriving DecidableEq, Inhabited
structure Ar where
  size : Nat
  cs : List Int
  rs : List Rg
  last : Nat
def Ar.used (A : Ar) : Nat := (A.rs.map (·.n)).sum
def inR (r : Rg) (i : Nat) : Prop := r.b ≤ i ∧ i < r.b + r.n
structure Ar.ok (A : Ar) : Prop where
  len : A.cs.length = A.size
  size : A.size ≤ 1048576
  sorted : A.rs.Pairwise fun r s => r.b + r.n ≤ s.b
  each : ∀ r ∈ A.rs, 1 ≤ r.n ∧ r.b + r.n ≤ A.size ∧ 1 ≤ r.id ∧ r.id ≤ A.last
  ids : (A.rs.map (·.id)).Nodup
  clean : ∀ i, i < A.size → (∀ r ∈ A.rs, ¬ inR r i) → A.cs[i]? = some 0
def Ar.new (size : Nat) : Ar := ⟨size, List.replicate size 0, [], 0⟩
/-- Where there are n free places in a row, from at on. -/
def gapL : List Rg → Nat → Nat → Nat → Option Nat
  | [], at_, size, n => if at_ + n ≤ size then some at_ else none
  | r :: t, at_, size, n => if at_ + n ≤ r.b then some at_ else gapL t (r.b + r.n) size n
def insR (x : Rg) : List Rg → List Rg
  | [] => [x]
  | r :: t => if x.b < r.b then x :: r :: t else r :: insR x t
def Ar.alloc (A : Ar) (base n : Nat) : Ar := { A with rs := insR ⟨A.last + 1, base, n⟩ A.rs, last := A.last + 1 }
def findR (rs : List Rg) (id : Int) : Option Rg := rs.find? (fun r => (r.id : Int) == id)
def clearAt (cs : List Int) (b n : Nat) : List Int := cs.take b ++ List.replicate n 0 ++ cs.drop (b + n)
def Ar.free (A : Ar) (r : Rg) : Ar := { A with cs := clearAt A.cs r.b r.n, rs := A.rs.filter (· ≠ r) }
def Ar.set (A : Ar) (i : Nat) (v : Int) : Ar := { A with cs := A.cs.set i v }
theorem Ar.new_ok {size : Nat} (h : size ≤ 1048576) : (Ar.new size).ok where
  len := by simp [Ar.new]
  size := h
  sorted := List.Pairwise.nil
  each := fun r hr => nomatch hr
  ids := List.nodup_nil
  clean := fun i hi _ => by simp only [Ar.new] at *; rw [List.getElem?_replicate, if_pos hi]
theorem mem_insR {x y : Rg} : ∀ {l : List Rg}, y ∈ insR x l ↔ y = x ∨ y ∈ l
  | [] => by simp [insR]
  | r :: t => by
    unfold insR
    split
    · simp
    · rw [List.mem_cons, mem_insR, List.mem_cons]
      constructor
      · rintro (h | h | h)
        · exact .inr (.inl h)
        · exact .inl h
        · exact .inr (.inr h)
      · rintro (h | h | h)
        · exact .inr (.inl h)
        · exact .inl h
        · exact .inr (.inr h)
theorem insR_perm (x : Rg) : ∀ l : List Rg, (insR x l).Perm (x :: l)
  | [] => List.Perm.refl _
  | r :: t => by
    unfold insR
    split
    · exact List.Perm.refl _
    · exact ((insR_perm x t).cons r).trans (List.Perm.swap _ _ _)
/-- What the gap is: free, as low as can be. -/
theorem gapL_some {size n : Nat} : ∀ {l : List Rg} {at_ base : Nat}, l.Pairwise (fun r s => r.b + r.n ≤ s.b) → (∀ r ∈ l, at_ ≤ r.b ∧ r.b + r.n ≤ size) → gapL l at_ size n = some base →
    at_ ≤ base ∧ base + n ≤ size ∧ ∀ r ∈ l, r.b + r.n ≤ base ∨ base + n ≤ r.b
  | [], at_, base, _, _, h => by
    unfold gapL at h
    split at h
    · injection h with h; subst h; exact ⟨Nat.le_refl _, by assumption, fun r hr => nomatch hr⟩
    · cases h
  | r :: t, at_, base, hp, hr, h => by
    obtain ⟨hp1, hp2⟩ := List.pairwise_cons.1 hp
    have h0 := hr r (List.mem_cons_self ..)
    unfold gapL at h
    split at h
    · injection h with h; subst h
      refine ⟨Nat.le_refl _, by omega, fun s hs => .inr ?_⟩
      rcases List.mem_cons.1 hs with rfl | hs
      · assumption
      · have := hp1 s hs; omega
    · obtain ⟨a, b, c⟩ := gapL_some hp2 (fun s hs => ⟨hp1 s hs, (hr s (List.mem_cons_of_mem _ hs)).2⟩) h
      refine ⟨by omega, b, fun s hs => ?_⟩
      rcases List.mem_cons.1 hs with rfl | hs
      · exact .inl a
      · exact c s hs
theorem insR_sorted {x : Rg} (hx : 1 ≤ x.n) : ∀ {l : List Rg}, l.Pairwise (fun r s => r.b + r.n ≤ s.b) → (∀ r ∈ l, r.b + r.n ≤ x.b ∨ x.b + x.n ≤ r.b) → (insR x l).Pairwise (fun r s => r.b + r.n ≤ s.b)
  | [], _, _ => List.pairwise_singleton _ _
  | r :: t, hp, h => by
    obtain ⟨hp1, hp2⟩ := List.pairwise_cons.1 hp
    unfold insR
    split
    · rename_i hlt
      have h0 := h r (List.mem_cons_self ..)
      refine List.pairwise_cons.2 ⟨fun s hs => ?_, hp⟩
      rcases List.mem_cons.1 hs with rfl | hs
      · omega
      · have := hp1 s hs; omega
    · rename_i hlt
      refine List.pairwise_cons.2 ⟨fun s hs => ?_, insR_sorted hx hp2 fun s hs => h s (List.mem_cons_of_mem _ hs)⟩
      rcases mem_insR.1 hs with rfl | hs
      · have := h r (List.mem_cons_self ..); omega
      · exact hp1 s hs
theorem Ar.ok.alloc {A : Ar} (h : A.ok) {n base : Nat} (hn : 1 ≤ n) (hg : gapL A.rs 0 A.size n = some base) : (A.alloc base n).ok := by
  obtain ⟨_, g2, g3⟩ := gapL_some h.sorted (fun r hr => ⟨Nat.zero_le _, (h.each r hr).2.1⟩) hg
  exact {
    len := h.len
    size := h.size
    sorted := insR_sorted hn h.sorted g3
    each := fun r hr => by
      rcases mem_insR.1 hr with rfl | hr
      · exact ⟨hn, g2, Nat.succ_le_succ (Nat.zero_le _), Nat.le_refl _⟩
      · obtain ⟨a, b, c, d⟩ := h.each r hr
        exact ⟨a, b, c, Nat.le_succ_of_le d⟩
    ids := by
      show ((insR ⟨A.last + 1, base, n⟩ A.rs).map (·.id)).Nodup
      refine ((insR_perm _ _).map (·.id)).nodup_iff.2 ?_
      rw [List.map_cons]
      refine List.nodup_cons.2 ⟨fun hm => ?_, h.ids⟩
      obtain ⟨r, hr, e⟩ := List.mem_map.1 hm
      have := (h.each r hr).2.2.2
      have e' : r.id = A.last + 1 := e
      omega
    clean := fun i hi hf => h.clean i hi fun r hr => hf r (mem_insR.2 (.inr hr)) }
theorem clearAt_len {cs : List Int} {b n : Nat} (h : b + n ≤ cs.length) : (clearAt cs b n).length = cs.length := by
  unfold clearAt; simp; omega
theorem clearAt_get {cs : List Int} {b n i : Nat} (h : b + n ≤ cs.length) (hi : i < cs.length) : (clearAt cs b n)[i]? = if b ≤ i ∧ i < b + n then some 0 else cs[i]? := by
  unfold clearAt
  by_cases h1 : i < b
  · rw [if_neg (by omega), List.append_assoc, List.getElem?_append_left (by simp; omega), List.getElem?_take, if_pos h1]
  · by_cases h2 : i < b + n
    · rw [if_pos ⟨by omega, h2⟩, List.append_assoc, List.getElem?_append_right (by simp; omega), List.getElem?_append_left (by simp; omega), List.getElem?_replicate, if_pos (by simp; omega)]
    · rw [if_neg (by omega), List.getElem?_append_right (by simp; omega), List.getElem?_drop]
      congr 1
      simp; omega
theorem pair_apart {l : List Rg} (hp : l.Pairwise fun r s => r.b + r.n ≤ s.b) {r s : Rg} (hr : r ∈ l) (hs : s ∈ l) (hne : r ≠ s) : r.b + r.n ≤ s.b ∨ s.b + s.n ≤ r.b := by
  induction l with
  | nil => exact nomatch hr
  | cons x t ih =>
    obtain ⟨h1, h2⟩ := List.pairwise_cons.1 hp
    rcases List.mem_cons.1 hr with e | hr'
    · rcases List.mem_cons.1 hs with e' | hs'
      · exact absurd (e.trans e'.symm) hne
      · exact .inl (by have := h1 s hs'; rw [← e] at this; exact this)
    · rcases List.mem_cons.1 hs with e' | hs'
      · exact .inr (by have := h1 r hr'; rw [← e'] at this; exact this)
      · exact ih h2 hr' hs'
theorem Ar.ok.free {A : Ar} (h : A.ok) {r : Rg} (hr : r ∈ A.rs) : (A.free r).ok := by
  have hb := (h.each r hr).2.1
  exact {
    len := by show (clearAt A.cs r.b r.n).length = A.size; rw [clearAt_len (by rw [h.len]; exact hb), h.len]
    size := h.size
    sorted := h.sorted.filter _
    each := fun s hs => h.each s (List.mem_filter.1 hs).1
    ids := (h.ids.sublist ((List.filter_sublist (l := A.rs)).map _))
    clean := fun i hi hf => by
      show (clearAt A.cs r.b r.n)[i]? = some 0
      rw [clearAt_get (by rw [h.len]; exact hb) (by rw [h.len]; exact hi)]
      split
      · rfl
      · rename_i hno
        refine h.clean i hi fun s hs => ?_
        by_cases e : s = r
        · subst e; exact hno
        · exact hf s (List.mem_filter.2 ⟨hs, by simpa using e⟩) }
theorem Ar.ok.set {A : Ar} (h : A.ok) {r : Rg} (hr : r ∈ A.rs) {i : Nat} (hi : i < r.n) (v : Int) : (A.set (r.b + i) v).ok where
  len := by show (A.cs.set _ _).length = _; rw [List.length_set]; exact h.len
  size := h.size
  sorted := h.sorted
  each := h.each
  ids := h.ids
  clean := fun k hk hf => by
    show (A.cs.set _ _)[k]? = some 0
    rw [List.getElem?_set_ne]
    · exact h.clean k hk hf
    · intro e
      exact hf r hr ⟨by omega, by omega⟩
/-- All that is used fits. -/
theorem sum_le {size : Nat} : ∀ {l : List Rg} {at_ : Nat}, l.Pairwise (fun r s => r.b + r.n ≤ s.b) → (∀ r ∈ l, at_ ≤ r.b ∧ r.b + r.n ≤ size) → at_ ≤ size → at_ + (l.map (·.n)).sum ≤ size
  | [], at_, _, _, h => by simpa using h
  | r :: t, at_, hp, hr, h => by
    obtain ⟨hp1, hp2⟩ := List.pairwise_cons.1 hp
    have h0 := hr r (List.mem_cons_self ..)
    have := sum_le (l := t) (at_ := r.b + r.n) hp2 (fun s hs => ⟨hp1 s hs, (hr s (List.mem_cons_of_mem _ hs)).2⟩) h0.2
    rw [List.map_cons, List.sum_cons]
    omega
theorem Ar.ok.used_le {A : Ar} (h : A.ok) : A.used ≤ A.size := by
  have := sum_le (at_ := 0) h.sorted (fun r hr => ⟨Nat.zero_le _, (h.each r hr).2.1⟩) (Nat.zero_le _)
  unfold Ar.used; omega
theorem used_alloc (A : Ar) (base n : Nat) : (A.alloc base n).used = A.used + n := by
  show ((insR _ A.rs).map (·.n)).sum = _
  rw [((insR_perm ⟨A.last + 1, base, n⟩ A.rs).map (·.n)).sum_nat, List.map_cons, List.sum_cons]
  unfold Ar.used
  show n + _ = _
  omega
theorem findR_some {rs : List Rg} {id : Int} {r : Rg} (h : findR rs id = some r) : r ∈ rs ∧ (r.id : Int) = id := ⟨List.mem_of_find?_eq_some h, by simpa using List.find?_some h⟩
theorem findR_of {rs : List Rg} (hn : (rs.map (·.id)).Nodup) {r : Rg} (hr : r ∈ rs) : findR rs r.id = some r := by
  induction rs with
  | nil => exact nomatch hr
  | cons s t ih =>
    rw [List.map_cons] at hn
    obtain ⟨h1, h2⟩ := List.nodup_cons.1 hn
    unfold findR at *
    rw [List.find?_cons]
    rcases List.mem_cons.1 hr with rfl | hr
    · simp
    · have : ¬ s.id = r.id := fun e => h1 (List.mem_map.2 ⟨r, hr, e.symm⟩)
      rw [show ((s.id : Int) == (r.id : Int)) = false from by simp; omega]
      exact ih h2 hr
theorem findR_none {rs : List Rg} {id : Int} (h : findR rs id = none) : ∀ r ∈ rs, (r.id : Int) ≠ id := fun r hr e => by
  have := List.find?_eq_none.1 h r hr
  simp [e] at this
theorem filter_sum {l : List Rg} {r : Rg} (hn : (l.map (·.id)).Nodup) (hr : r ∈ l) : ((l.filter (· ≠ r)).map (·.n)).sum + r.n = (l.map (·.n)).sum := by
  induction l with
  | nil => exact nomatch hr
  | cons s t ih =>
    rw [List.map_cons] at hn
    obtain ⟨h1, h2⟩ := List.nodup_cons.1 hn
    by_cases e : s = r
    · subst e
      have hf : t.filter (· ≠ s) = t := List.filter_eq_self.2 fun x hx => by
        have : x ≠ s := fun e => h1 (List.mem_map.2 ⟨x, hx, by rw [e]⟩)
        simpa using this
      rw [List.filter_cons, if_neg (by simp), hf, List.map_cons, List.sum_cons]
      omega
    · have hr' : r ∈ t := (List.mem_cons.1 hr).resolve_left fun x => e x.symm
      have := ih h2 hr'
      rw [List.filter_cons, if_pos (by simpa using e), List.map_cons, List.sum_cons, List.map_cons, List.sum_cons]
      omega
theorem used_free {A : Ar} (h : A.ok) {r : Rg} (hr : r ∈ A.rs) : (A.free r).used + r.n = A.used := filter_sum h.ids hr
end Go.Proofs.Ytgckncggcdmaaaa
