/- Tables with other numbers: plain laws. -/
import Derived.Test.YtafcnehinanecaaTabPure
namespace Go.Proofs.Ytafcnehinanecaa
open Go.RowKit
theorem place_in {l : List Int} {x : Int} (h : x ∈ l) : 0 ≤ place l x ∧ place l x < l.length := by
  unfold place; rw [if_pos h]; have := List.idxOf_lt_length_of_mem h; omega
theorem place_range (l : List Int) (x : Int) : -1 ≤ place l x ∧ place l x < l.length := by
  by_cases h : x ∈ l
  · have := place_in h; omega
  · rw [place_none h]; omega
theorem place_get {l : List Int} {x : Int} (h : x ∈ l) : l[(place l x).toNat]? = some x := by
  unfold place; rw [if_pos h]
  show l[l.idxOf x]? = _
  have := List.idxOf_lt_length_of_mem h
  rw [List.getElem?_eq_getElem this]
  congr 1
  exact List.getElem_idxOf this
theorem place_nth {l : List Int} (hn : l.Nodup) {i : Nat} (hi : i < l.length) : place l l[i] = i :=
  place_hit (List.getElem?_eq_getElem hi) fun j hj e => by
    have := (List.getElem_inj (h₀ := Nat.lt_trans hj hi) (h₁ := hi) hn).1 (List.getElem?_eq_some_iff.1 e).2
    omega
theorem place_inj {l : List Int} {x y : Int} (hx : x ∈ l) (hy : y ∈ l) (h : place l x = place l y) : x = y := by
  have a := place_get hx
  rw [h, place_get hy] at a
  injection a with a; exact a.symm
theorem rowI_nat (T : Tb) {a : Int} (h : 0 ≤ a) : rowI T (a.toNat : Nat) = rowI T a := by rw [Int.toNat_of_nonneg h]
theorem tagI_nat (T : Tb) {a : Int} (h : 0 ≤ a) : tagI T (a.toNat : Nat) = tagI T a := by rw [Int.toNat_of_nonneg h]
theorem rowI_number {T : Tb} {l : List Int} {x : Int} (h : x ∈ l) : rowI (numberT T l) (place l x) = (rowI T x).map (place l) := by
  unfold rowI numberT
  simp only
  rw [List.getD_eq_getElem?_getD, List.getElem?_map, place_get h]; rfl
theorem tagI_number {T : Tb} {l : List Int} {x : Int} (h : x ∈ l) : tagI (numberT T l) (place l x) = tagI T x := by
  unfold tagI numberT
  simp only
  rw [List.getD_eq_getElem?_getD, List.getElem?_map, place_get h]; rfl
theorem RightP.tagIn {T : Tb} (p : RightP T) {s : Int} (h0 : 0 ≤ s) (h1 : s < T.next.length) : -1 ≤ tagI T s ∧ tagI T s ≤ 7 := by
  have h2 : s.toNat < T.tag.length := by rw [← p.nt]; omega
  unfold tagI
  rw [List.getD_eq_getElem?_getD, List.getElem?_eq_getElem h2]
  exact p.tags _ h2
theorem number_right {T : Tb} {l : List Int} (p : RightP T) (hd : ∀ x ∈ l, 0 ≤ x ∧ x < T.next.length) (hn : l.length ≤ 300) (hs : l = [] ∨ T.start ∈ l) : RightP (numberT T l) where
  c1 := p.c1
  c2 := p.c2
  n3 := by simpa [numberT] using hn
  nt := by simp [numberT]
  s1 := (place_range _ _).1
  s2 := by simp only [numberT, List.length_map]; exact (place_range _ _).2
  s3 := fun e => by
    rcases hs with rfl | h
    · rfl
    · have := (place_in h).1
      simp only [numberT] at e; omega
  bs := p.bs
  rows := fun i h => by
    have h2 : i < l.length := by simpa [numberT] using h
    simp only [numberT, List.getElem_map, List.length_map]
    obtain ⟨a, b⟩ := hd _ (List.getElem_mem h2)
    exact p.rowLen a b
  tags := fun i h => by
    have h2 : i < l.length := by simpa [numberT] using h
    simp only [numberT, List.getElem_map]
    obtain ⟨a, b⟩ := hd _ (List.getElem_mem h2)
    exact p.tagIn a b
  goes := fun i h k hk => by
    simp only [numberT, List.getElem_map, List.length_map]
    exact place_range _ _
/-- How the table with other numbers stands to the table: a state that is left out leads nowhere. -/
def Rel (T : Tb) (l : List Int) (a u : Int) : Prop := (a ∈ l ∧ u = place l a) ∨ (a ∉ l ∧ u = -1 ∧ (a < 0 ∨ ¬ Live T a.toNat))
structure Kept (T : Tb) (l : List Int) : Prop where
  inn : ∀ x ∈ l, 0 ≤ x ∧ x < T.next.length
  out : ∀ x ∈ l, ∀ k ∈ rowI T x, k ∉ l → k < 0 ∨ ¬ Live T k.toNat
  all : (∀ x ∈ l, Live T x.toNat) ∨ (∀ x : Int, 0 ≤ x → x < T.next.length → x ∈ l)
  start : T.start ∉ l → T.start < 0 ∨ ¬ Live T T.start.toNat
theorem RightP.stepMem {T : Tb} (p : RightP T) (h256 : T.remap.length = 256) {a : Int} (h0 : 0 ≤ a) (h1 : a < T.next.length) (b : UInt8) : stepT T a b ∈ rowI T a := by
  unfold stepT; rw [if_pos h0]
  have hl := p.byteRow h256 h0 h1 b
  rw [List.getD_eq_getElem?_getD, List.getElem?_eq_getElem hl]
  exact List.getElem_mem hl
theorem rel_step {T : Tb} {l : List Int} (p : RightP T) (h256 : T.remap.length = 256) (K : Kept T l) {a u : Int} (h : Rel T l a u) (ha : a < T.next.length) (b : UInt8) : Rel T l (stepT T a b) (stepT (numberT T l) u b) := by
  rcases h with ⟨h1, rfl⟩ | ⟨h1, rfl, h2⟩
  · obtain ⟨a0, a1⟩ := K.inn a h1
    have hm := p.stepMem h256 a0 a1 b
    have hu : stepT (numberT T l) (place l a) b = place l (stepT T a b) := by
      unfold stepT
      rw [if_pos (place_in h1).1, if_pos a0, rowI_number h1]
      have hl := p.byteRow h256 a0 a1 b
      show ((rowI T a).map (place l)).getD (T.remap.getD b.toNat 0) 0 = _
      generalize T.remap.getD b.toNat 0 = q at *
      rw [List.getD_eq_getElem?_getD, List.getD_eq_getElem?_getD, List.getElem?_map, List.getElem?_eq_getElem hl]; rfl
    by_cases hk : stepT T a b ∈ l
    · exact .inl ⟨hk, hu⟩
    · exact .inr ⟨hk, by rw [hu, place_none hk], K.out a h1 _ hm hk⟩
  · have hu : stepT (numberT T l) (-1) b = -1 := by unfold stepT; rw [if_neg (by omega)]
    by_cases a0 : 0 ≤ a
    · have hm := p.stepMem h256 a0 ha b
      have hL : ¬ Live T a.toNat := by rcases h2 with h2 | h2; omega; exact h2
      have hk2 : stepT T a b < 0 ∨ ¬ Live T (stepT T a b).toNat := by
        by_cases k0 : 0 ≤ stepT T a b
        · exact .inr fun hk => hL (.step _ _ (by omega) (by rw [rowI_nat T a0, Int.toNat_of_nonneg k0]; exact hm) hk)
        · exact .inl (by omega)
      refine .inr ⟨fun hk => ?_, hu, hk2⟩
      rcases K.all with hall | hall
      · have := K.inn _ hk
        rcases hk2 with h | h
        · omega
        · exact h (hall _ hk)
      · exact h1 (hall a a0 ha)
    · have : stepT T a b = a := by unfold stepT; rw [if_neg a0]
      rw [this, hu]
      exact .inr ⟨h1, rfl, h2⟩
theorem rel_run {T : Tb} {l : List Int} (p : RightP T) (h256 : T.remap.length = 256) (K : Kept T l) (s : List UInt8) : Rel T l (runT T s) (runT (numberT T l) s) := by
  have : ∀ (s : List UInt8) (a u : Int), (-1 ≤ a ∧ a < T.next.length) → Rel T l a u → Rel T l (s.foldl (stepT T) a) (s.foldl (stepT (numberT T l)) u) := by
    intro s
    induction s with
    | nil => exact fun a u _ h => h
    | cons b s ih => exact fun a u ha h => ih _ _ (p.stepIn h256 ha b) (rel_step p h256 K h ha.2 b)
  refine this s T.start (numberT T l).start ⟨p.s1, p.s2⟩ ?_
  by_cases h : T.start ∈ l
  · exact .inl ⟨h, rfl⟩
  · exact .inr ⟨h, place_none h, K.start h⟩
theorem long_number {T : Tb} {l : List Int} (p : RightP T) (h256 : T.remap.length = 256) (K : Kept T l) (s : List UInt8) (f : Nat) : ∀ k, longN (numberT T l) s f k = longN T s f k
  | 0 => rfl
  | k + 1 => by
    have ih := long_number p h256 K s f k
    have hr := rel_run p h256 K ((s.drop f).take (k + 1))
    have hin := p.runIn h256 ((s.drop f).take (k + 1))
    unfold longN
    simp only
    rw [ih]
    generalize runT T ((s.drop f).take (k + 1)) = a at *
    generalize runT (numberT T l) ((s.drop f).take (k + 1)) = u at *
    rcases hr with ⟨h1, rfl⟩ | ⟨h1, rfl, h2⟩
    · have a0 := (K.inn a h1).1
      have u0 := (place_in h1).1
      rw [tagI_number h1]
      simp only [a0, u0, true_and]
    · rw [if_neg (fun h => by omega), if_neg]
      rintro ⟨a0, at_⟩
      rcases h2 with h2 | h2
      · omega
      · exact h2 (.acc _ (by omega) (by rw [tagI_nat T a0]; exact at_))
theorem longest_number {T : Tb} {l : List Int} (p : RightP T) (h256 : T.remap.length = 256) (K : Kept T l) (s : List UInt8) (f : Nat) : longest (numberT T l) s f = longest T s f := long_number p h256 K s f _
/- What is met. -/
theorem metN_le (T : Tb) (may : Int → Bool) (i : Nat) : ∀ j, metN T may i <+: metN T may (i + j)
  | 0 => List.prefix_refl _
  | j + 1 => (metN_le T may i j).trans (metN_prefix T may (i + j))
theorem metN_sub {T : Tb} (p : RightP T) (may : Int → Bool) (i : Nat) : metN T may i <+: order T may := by
  by_cases h : i ≤ T.next.length
  · have := metN_le T may i (T.next.length - i)
    rwa [show i + (T.next.length - i) = T.next.length by omega] at this
  · have hs := (p.meets may T.next.length).small
    have := metN_done hs (i - T.next.length)
    rw [show T.next.length + (i - T.next.length) = i by omega] at this
    rw [this]; exact List.prefix_refl _
theorem addRow_mem {may : Int → Bool} {k : Int} (h0 : 0 ≤ k) (hm : may k = true) : ∀ {row out : List Int}, k ∈ row → k ∈ addRow may out row
  | [], _, h => nomatch h
  | x :: row, out, h => by
    rcases List.mem_cons.1 h with rfl | h
    · refine (addRow_prefix may row (addIf may out k)).subset ?_
      cases hb : out.any (· == k) with
      | true =>
        obtain ⟨y, hy, e⟩ := List.any_eq_true.1 hb
        have := eq_of_beq e; subst this
        exact (addIf_prefix may out y).subset hy
      | false => rw [addIf_yes h0 hm hb]; simp
    · exact addRow_mem (row := row) (out := addIf may out x) h0 hm h
theorem addIf_only {may : Int → Bool} {out : List Int} {k x : Int} (h : x ∈ addIf may out k) : x ∈ out ∨ (x = k ∧ 0 ≤ x ∧ may x = true) := by
  unfold addIf at h; split at h
  · rename_i hc
    simp only [Bool.and_eq_true, decide_eq_true_eq] at hc
    rcases List.mem_append.1 h with h | h
    · exact .inl h
    · rw [List.mem_singleton] at h; subst h; exact .inr ⟨rfl, hc.1.1, hc.1.2⟩
  · exact .inl h
theorem addRow_only {may : Int → Bool} {x : Int} : ∀ {row out : List Int}, x ∈ addRow may out row → x ∈ out ∨ (x ∈ row ∧ 0 ≤ x ∧ may x = true)
  | [], _, h => .inl h
  | k :: row, out, h => by
    rcases addRow_only (row := row) (out := addIf may out k) h with h | ⟨h, h2⟩
    · rcases addIf_only h with h | ⟨rfl, h2⟩
      · exact .inl h
      · exact .inr ⟨by simp, h2⟩
    · exact .inr ⟨by simp [h], h2⟩
theorem order_start {T : Tb} (p : RightP T) {may : Int → Bool} (h0 : 0 ≤ T.start) (hm : may T.start = true) : T.start ∈ order T may := by
  refine (metN_sub p may 0).subset ?_
  rw [metN, if_pos (by simp [h0, hm])]; simp
theorem order_at {T : Tb} (p : RightP T) (may : Int → Bool) {i : Nat} (hi : i < (order T may).length) : ∃ h : i < (metN T may i).length, (metN T may i)[i] = (order T may)[i] := by
  have h : i < (metN T may i).length := by
    apply Classical.byContradiction
    intro hc
    have h2 := metN_done (T := T) (may := may) (k := i) (by omega) (T.next.length - i)
    have h3 := (p.meets may T.next.length).small
    rw [show i + (T.next.length - i) = T.next.length by unfold order at hi; omega] at h2
    unfold order at hi
    rw [h2] at hi; omega
  refine ⟨h, ?_⟩
  obtain ⟨t, ht⟩ := metN_sub p may i
  have : (order T may)[i]? = (metN T may i)[i]? := by rw [← ht, List.getElem?_append_left h]
  rw [List.getElem?_eq_getElem hi, List.getElem?_eq_getElem h] at this
  injection this with this; exact this.symm
theorem order_closed {T : Tb} (p : RightP T) {may : Int → Bool} {x k : Int} (hx : x ∈ order T may) (hk : k ∈ rowI T x) (h0 : 0 ≤ k) (hm : may k = true) : k ∈ order T may := by
  obtain ⟨i, hi, rfl⟩ := List.getElem_of_mem hx
  obtain ⟨h, e⟩ := order_at p may hi
  refine (metN_sub p may (i + 1)).subset ?_
  rw [metN_step h, e]
  exact addRow_mem h0 hm hk
theorem order_in {T : Tb} (p : RightP T) {may : Int → Bool} {x : Int} (h : x ∈ order T may) : 0 ≤ x ∧ x < T.next.length ∧ may x = true := (p.meets may T.next.length).2 x h
theorem order_nodup {T : Tb} (p : RightP T) (may : Int → Bool) : (order T may).Nodup := (p.meets may T.next.length).1
theorem order_len {T : Tb} (p : RightP T) (may : Int → Bool) : (order T may).length ≤ T.next.length := (p.meets may T.next.length).small
theorem order_nil {T : Tb} {may : Int → Bool} (h : ¬ (0 ≤ T.start ∧ may T.start = true)) : order T may = [] := by
  have h0 : metN T may 0 = [] := by rw [metN, if_neg (by simpa using h)]
  have := metN_done (T := T) (may := may) (k := 0) (by rw [h0]; simp) T.next.length
  unfold order
  rw [Nat.zero_add] at this
  rw [this, h0]
theorem order_first {T : Tb} (p : RightP T) (may : Int → Bool) : order T may = [] ∨ T.start ∈ order T may := by
  by_cases h : 0 ≤ T.start ∧ may T.start = true
  · exact .inr (order_start p h.1 h.2)
  · exact .inl (order_nil h)
theorem order_subset {T : Tb} (p : RightP T) {may may' : Int → Bool} (h : ∀ k, may k = true → may' k = true) : order T may ⊆ order T may' := by
  have : ∀ j, metN T may j ⊆ order T may' := by
    intro j
    induction j with
    | zero =>
      intro x hx
      rw [metN] at hx
      split at hx
      · rename_i hc
        simp only [Bool.and_eq_true, decide_eq_true_eq] at hc
        rw [List.mem_singleton] at hx; subst hx
        exact order_start p hc.1 (h _ hc.2)
      · nomatch hx
    | succ j ih =>
      intro x hx
      rw [metN] at hx
      split at hx
      · rename_i hj
        rcases addRow_only hx with hx | ⟨hx, h0, hm⟩
        · exact ih hx
        · exact order_closed p (ih (List.getElem_mem hj)) hx h0 (h _ hm)
      · exact ih hx
  exact this _
theorem addIf_map {l : List Int} {may may' : Int → Bool} {out : List Int} {k : Int} (ho : ∀ x ∈ out, x ∈ l) (hk : 0 ≤ k → may k = true → k ∈ l) (hl : ∀ x ∈ l, 0 ≤ x ∧ may x = true) (hm : ∀ i : Int, 0 ≤ i → i < l.length → may' i = true) :
    addIf may' (out.map (place l)) (place l k) = (addIf may out k).map (place l) := by
  by_cases h : k ∈ l
  · obtain ⟨k0, k1⟩ := hl k h
    obtain ⟨p0, p1⟩ := place_in h
    have e : (out.map (place l)).any (· == place l k) = out.any (· == k) := by
      rw [List.any_map, Bool.eq_iff_iff, List.any_eq_true, List.any_eq_true]
      constructor
      · rintro ⟨x, hx, e⟩
        exact ⟨x, hx, by rw [place_inj (ho x hx) h (eq_of_beq e)]; simp⟩
      · rintro ⟨x, hx, e⟩
        exact ⟨x, hx, by rw [eq_of_beq e]; simp⟩
    cases hb : out.any (· == k) with
    | true => rw [addIf_in hb, addIf_in (e.trans hb)]
    | false => rw [addIf_yes k0 k1 hb, addIf_yes p0 (hm _ p0 p1) (e.trans hb), List.map_append]; rfl
  · rw [place_none h, addIf_low (by omega)]
    have : addIf may out k = out := by
      unfold addIf
      rw [if_neg]
      intro hc
      simp only [Bool.and_eq_true, decide_eq_true_eq] at hc
      exact h (hk hc.1.1 hc.1.2)
    rw [this]
theorem addRow_map {l : List Int} {may may' : Int → Bool} (hl : ∀ x ∈ l, 0 ≤ x ∧ may x = true) (hm : ∀ i : Int, 0 ≤ i → i < l.length → may' i = true) : ∀ {row out : List Int}, (∀ x ∈ out, x ∈ l) → (∀ k ∈ row, 0 ≤ k → may k = true → k ∈ l) →
    addRow may' (out.map (place l)) (row.map (place l)) = (addRow may out row).map (place l)
  | [], _, _, _ => rfl
  | k :: row, out, ho, hr => by
    show addRow may' (addIf may' (out.map (place l)) (place l k)) (row.map (place l)) = (addRow may (addIf may out k) row).map (place l)
    rw [addIf_map ho (hr k (by simp)) hl hm]
    refine addRow_map hl hm (fun x hx => ?_) (fun x hx => hr x (by simp [hx]))
    rcases addIf_only hx with hx | ⟨rfl, h0, h1⟩
    · exact ho x hx
    · exact hr x (by simp) h0 h1
theorem metN_map {T : Tb} (p : RightP T) {may may' : Int → Bool} (hm : ∀ i : Int, 0 ≤ i → i < (order T may).length → may' i = true) : ∀ j, metN (numberT T (order T may)) may' j = (metN T may j).map (place (order T may))
  | 0 => by
    rw [metN, metN]
    show (if decide (0 ≤ place (order T may) T.start) && may' (place (order T may) T.start) then [place (order T may) T.start] else []) = _
    by_cases h : 0 ≤ T.start ∧ may T.start = true
    · obtain ⟨p0, p1⟩ := place_in (order_start p h.1 h.2)
      rw [if_pos (by simp [p0, hm _ p0 p1]), if_pos (by simp [h.1, h.2])]; rfl
    · rw [order_nil h, place_none (by simp), if_neg (by simp), if_neg (by simpa using h)]; rfl
  | j + 1 => by
    have ih := metN_map p hm j
    rw [metN, metN]
    by_cases h : j < (metN T may j).length
    · have hx := (metN_sub p may j).subset (List.getElem_mem h)
      rw [dif_pos h, dif_pos (by rw [ih, List.length_map]; exact h)]
      have e : (metN (numberT T (order T may)) may' j)[j]'(by rw [ih, List.length_map]; exact h) = place (order T may) (metN T may j)[j] := by
        simp only [ih, List.getElem_map]
      rw [e, rowI_number hx, ih]
      exact addRow_map (fun x hx => ⟨(order_in p hx).1, (order_in p hx).2.2⟩) hm (fun x hx => (metN_sub p may j).subset hx) (fun k hk h0 h1 => order_closed p hx hk h0 h1)
    · rw [dif_neg h, dif_neg (by rw [ih, List.length_map]; exact h), ih]
theorem order_number {T : Tb} (p : RightP T) {may may' : Int → Bool} (hm : ∀ i : Int, 0 ≤ i → i < (order T may).length → may' i = true) : order (numberT T (order T may)) may' = (order T may).map (place (order T may)) := by
  have hn : (numberT T (order T may)).next.length = (order T may).length := by simp [numberT]
  show metN (numberT T (order T may)) may' (numberT T (order T may)).next.length = _
  rw [hn, metN_map p hm]
  have h1 := (metN_sub p may (order T may).length).length_le
  have h2 := metN_done h1 (T.next.length - (order T may).length)
  have h3 := order_len p may
  rw [show (order T may).length + (T.next.length - (order T may).length) = T.next.length by omega] at h2
  rw [← h2]; rfl
def upI (n : Nat) : List Int := (List.range n).map Int.ofNat
theorem upI_len (n : Nat) : (upI n).length = n := by unfold upI; simp
theorem upI_at (n : Nat) {i : Nat} (h : i < (upI n).length) : (upI n)[i] = (i : Int) := by
  have : (upI n)[i]? = some (i : Int) := by
    rw [upI_len] at h
    unfold upI; rw [List.getElem?_map, List.getElem?_range h]; rfl
  rw [List.getElem?_eq_getElem h] at this
  injection this
theorem map_place {l : List Int} (hn : l.Nodup) : l.map (place l) = upI l.length := by
  refine List.ext_getElem (by rw [List.length_map, upI_len]) fun i h1 h2 => ?_
  have h3 : i < l.length := by rwa [List.length_map] at h1
  rw [List.getElem_map, upI_at, place_nth hn h3]
theorem order_up {T : Tb} (p : RightP T) {may may' : Int → Bool} (hm : ∀ i : Int, 0 ≤ i → i < (order T may).length → may' i = true) : order (numberT T (order T may)) may' = upI (order T may).length := (order_number p hm).trans (map_place (order_nodup p may))
theorem live_number {T : Tb} {l : List Int} (hc : ∀ x ∈ l, ∀ k ∈ rowI T x, 0 ≤ k → Live T k.toNat → k ∈ l) {i : Nat} (h : Live T i) : (i : Int) ∈ l → Live (numberT T l) (place l i).toNat := by
  have hlen : (numberT T l).next.length = l.length := by simp [numberT]
  induction h with
  | acc i hi ht =>
    intro hm
    obtain ⟨p0, p1⟩ := place_in hm
    exact .acc _ (by rw [hlen]; omega) (by rw [tagI_nat _ p0, tagI_number hm]; exact ht)
  | step i k hi hk hL ih =>
    intro hm
    obtain ⟨p0, p1⟩ := place_in hm
    have hkl := hc _ hm _ hk (by omega) hL
    obtain ⟨q0, q1⟩ := place_in hkl
    exact .step _ _ (by rw [hlen]; omega) (by rw [rowI_nat _ p0, rowI_number hm, Int.toNat_of_nonneg q0]; exact List.mem_map_of_mem hk) (ih hkl)
noncomputable def liveM (T : Tb) : Int → Bool := fun k => liveB T k.toNat
theorem liveM_iff (T : Tb) (k : Int) : liveM T k = true ↔ Live T k.toNat := liveB_iff T _
theorem trimT_eq (T : Tb) : trimT T = numberT T (order T (liveM T)) := rfl
theorem trim_right {T : Tb} (p : RightP T) : RightP (trimT T) := number_right p (fun x hx => ⟨(order_in p hx).1, (order_in p hx).2.1⟩) (by have := order_len p (liveM T); have := p.n3; unfold liveM at *; omega) (order_first p _)
theorem order_right {T : Tb} (p : RightP T) (may : Int → Bool) : RightP (numberT T (order T may)) := number_right p (fun x hx => ⟨(order_in p hx).1, (order_in p hx).2.1⟩) (by have := order_len p may; have := p.n3; omega) (order_first p _)
theorem trim_live {T : Tb} (p : RightP T) {i : Int} (h0 : 0 ≤ i) (h1 : i < (order T (liveM T)).length) : Live (trimT T) i.toNat := by
  obtain ⟨n, rfl⟩ := Int.eq_ofNat_of_zero_le h0
  have hn : n < (order T (liveM T)).length := by omega
  have hm := List.getElem_mem hn
  obtain ⟨a, b, c⟩ := order_in p hm
  have hL := (liveM_iff T _).1 c
  have := live_number (l := order T (liveM T)) (fun x hx k hk k0 hL => order_closed p hx hk k0 ((liveM_iff T k).2 hL)) hL (by rw [Int.toNat_of_nonneg a]; exact hm)
  rw [Int.toNat_of_nonneg a, place_nth (order_nodup p _) hn] at this
  exact this
theorem trim_len (T : Tb) : (trimT T).next.length = (order T (liveM T)).length := by rw [trimT_eq]; simp [numberT]
theorem trim_order {T : Tb} (p : RightP T) {may' : Int → Bool} (hm : ∀ i : Int, 0 ≤ i → i < (trimT T).next.length → may' i = true) : order (trimT T) may' = upI (trimT T).next.length := by
  rw [trim_len] at *
  exact order_up p hm
theorem trim_useful {T : Tb} (p : RightP T) : usefulL (trimT T) = upI (trimT T).next.length := by
  unfold usefulL upI
  rw [List.filter_eq_self.2 fun i hi => (liveB_iff _ _).2 (by
    have h1 := List.mem_range.1 hi
    rw [trim_len] at h1
    exact trim_live p (i := (i : Int)) (by omega) (by omega))]
theorem place_up {n : Nat} {x : Int} (h : -1 ≤ x ∧ x < n) : place (upI n) x = x := by
  by_cases h0 : 0 ≤ x
  · obtain ⟨i, rfl⟩ := Int.eq_ofNat_of_zero_le h0
    have hi : i < (upI n).length := by rw [upI_len]; omega
    have hd : (upI n).Nodup := by
      unfold upI
      rw [List.nodup_iff_pairwise_ne, List.pairwise_map]
      exact (List.nodup_iff_pairwise_ne.1 List.nodup_range).imp fun h e => h (Int.ofNat.inj e)
    have := place_nth hd hi
    rwa [upI_at] at this
  · rw [place_none (fun hm => by
      obtain ⟨i, _, e⟩ := List.mem_map.1 hm
      have : (0 : Int) ≤ Int.ofNat i := Int.natCast_nonneg i
      omega)]
    omega
theorem number_up {T : Tb} (p : RightP T) : numberT T (upI T.next.length) = T := by
  unfold numberT
  have h1 : place (upI T.next.length) T.start = T.start := place_up ⟨p.s1, p.s2⟩
  have h2 : (upI T.next.length).map (fun k => (rowI T k).map (place (upI T.next.length))) = T.next := by
    refine List.ext_getElem (by rw [List.length_map, upI_len]) fun i h1 h2 => ?_
    rw [List.getElem_map, upI_at]
    have e : rowI T (i : Int) = T.next[i] := p.row (by omega) (by omega)
    rw [e]
    refine List.ext_getElem (by rw [List.length_map]) fun j h3 h4 => ?_
    rw [List.getElem_map]
    exact place_up (p.goes i h2 j h4)
  have h3 : (upI T.next.length).map (tagI T) = T.tag := by
    refine List.ext_getElem (by rw [List.length_map, upI_len]; exact p.nt) fun i h1 h2 => ?_
    rw [List.getElem_map, upI_at]
    unfold tagI
    rw [Int.toNat_natCast, List.getD_eq_getElem?_getD, List.getElem?_eq_getElem h2]; rfl
  rw [h1, h2, h3]
theorem trim_again {T : Tb} (p : RightP T) : trimT (trimT T) = trimT T := by
  conv => lhs; rw [trimT_eq]
  rw [trim_order p fun i h0 h1 => (liveM_iff _ _).2 (trim_live p h0 (by rw [trim_len] at h1; exact h1))]
  exact number_up (trim_right p)
theorem kept_trim {T : Tb} (p : RightP T) : Kept T (order T (liveM T)) where
  inn := fun x hx => ⟨(order_in p hx).1, (order_in p hx).2.1⟩
  out := fun x hx k hk hn => by
    by_cases h0 : 0 ≤ k
    · exact .inr fun hL => hn (order_closed p hx hk h0 ((liveM_iff T k).2 hL))
    · exact .inl (by omega)
  all := .inl fun x hx => (liveM_iff T x).1 (order_in p hx).2.2
  start := fun hn => by
    by_cases h0 : 0 ≤ T.start
    · exact .inr fun hL => hn (order_start p h0 ((liveM_iff T _).2 hL))
    · exact .inl (by omega)
theorem kept_all {T : Tb} (p : RightP T) {l : List Int} (hi : ∀ x ∈ l, 0 ≤ x ∧ x < T.next.length) (ha : ∀ x : Int, 0 ≤ x → x < T.next.length → x ∈ l) : Kept T l where
  inn := hi
  out := fun x hx k hk hn => by
    obtain ⟨a, b⟩ := hi x hx
    have := p.rowGoes a b hk
    by_cases h0 : 0 ≤ k
    · exact absurd (ha k h0 this.2) hn
    · exact .inl (by omega)
  all := .inr ha
  start := fun hn => by
    by_cases h0 : 0 ≤ T.start
    · exact absurd (ha _ h0 p.s2) hn
    · exact .inl (by omega)
theorem trim_longest {T : Tb} (p : RightP T) (h256 : T.remap.length = 256) (s : List UInt8) (f : Nat) : longest (trimT T) s f = longest T s f := longest_number p h256 (kept_trim p) s f
/-- So many different numbers below n are all. -/
theorem all_in {n : Nat} {l : List Int} (hd : l.Nodup) (hi : ∀ x ∈ l, 0 ≤ x ∧ x < (n : Int)) (hl : n ≤ l.length) {x : Int} (h0 : 0 ≤ x) (h1 : x < n) : x ∈ l := by
  apply Classical.byContradiction
  intro hx
  have := nodup_small (n := n) (l := x :: l) (List.nodup_cons.2 ⟨hx, hd⟩) (fun y hy => by
    rcases List.mem_cons.1 hy with rfl | hy
    · exact ⟨h0, h1⟩
    · exact hi y hy)
  simp at this; omega
theorem full_longest {T : Tb} (p : RightP T) (h256 : T.remap.length = 256) {l : List Int} (hd : l.Nodup) (hi : ∀ x ∈ l, 0 ≤ x ∧ x < T.next.length) (hl : T.next.length ≤ l.length) (s : List UInt8) (f : Nat) : longest (numberT T l) s f = longest T s f :=
  longest_number p h256 (kept_all p hi fun _ h0 h1 => all_in hd hi hl h0 h1) s f
theorem order_shorter {T : Tb} (p : RightP T) {may may' : Int → Bool} (h : ∀ k, may k = true → may' k = true) : (order T may).length ≤ (order T may').length := (order_nodup p may).length_le_of_subset (order_subset p h)
end Go.Proofs.Ytafcnehinanecaa
