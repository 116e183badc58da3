/- The classes of sets: plain Lean. -/
import Derived.Test.YtonicgbejmghkaaDoorBits
import Derived.Test.YtonicgbejmghkaaDoorRanges
namespace Go.Proofs.YtonicgbejmghkaaDoor
def orS (S T : Nat → Nat) (i : Nat) : Nat := S i ||| T i
def andS (S T : Nat → Nat) (i : Nat) : Nat := S i &&& T i
def notS (S : Nat → Nat) (i : Nat) : Nat := 18446744073709551615 - S i
def zeroS (_ : Nat) : Nat := 0
theorem has_or (S T : Nat → Nat) (b : Nat) : has (orS S T) b = (has S b || has T b) := by unfold has orS; rw [Nat.testBit_or]
theorem has_and (S T : Nat → Nat) (b : Nat) : has (andS S T) b = (has S b && has T b) := by unfold has andS; rw [Nat.testBit_and]
theorem has_not {S : Nat → Nat} (hS : okS S) (b : Nat) : has (notS S) b = !has S b := by
  unfold has notS
  have h := hS (b / 64)
  rw [show 18446744073709551615 - S (b / 64) = 2 ^ 64 - (S (b / 64) + 1) from by omega, Nat.testBit_two_pow_sub_succ (by omega)]
  simp; omega
theorem has_zero (b : Nat) : has zeroS b = false := by unfold has zeroS; exact Nat.zero_testBit _
theorem and_ok {S T : Nat → Nat} (hS : okS S) : okS (andS S T) := fun i => Nat.lt_of_le_of_lt Nat.and_le_left (hS i)
theorem orS_ok {S T : Nat → Nat} (hS : okS S) (hT : okS T) : okS (orS S T) := fun i => Nat.or_lt_two_pow (n := 64) (hS i) (hT i)
theorem not_ok {S : Nat → Nat} : okS (notS S) := fun i => by unfold notS; omega
theorem zero_ok : okS zeroS := fun i => by unfold zeroS; omega
theorem set_ext {S T : Nat → Nat} (hS : okS S) (hT : okS T) (h : ∀ b, b < 256 → has S b = has T b) (i : Nat) (hi : i < 4) : S i = T i := by
  refine Nat.eq_of_testBit_eq fun k => ?_
  by_cases hk : k < 64
  · have := h (i * 64 + k) (by omega)
    unfold has at this
    rw [show (i * 64 + k) / 64 = i from by omega, show (i * 64 + k) % 64 = k from by omega] at this
    exact this
  · rw [Nat.testBit_lt_two_pow (Nat.lt_of_lt_of_le (hS i) (Nat.pow_le_pow_right (n := 2) (i := 64) (by omega) (by omega))), Nat.testBit_lt_two_pow (Nat.lt_of_lt_of_le (hT i) (Nat.pow_le_pow_right (n := 2) (i := 64) (by omega) (by omega)))]
theorem set_ext_iff {S T : Nat → Nat} (hS : okS S) (hT : okS T) : (S 0 = T 0 ∧ S 1 = T 1 ∧ S 2 = T 2 ∧ S 3 = T 3) ↔ ∀ b, b < 256 → has S b = has T b := by
  constructor
  · rintro ⟨h0, h1, h2, h3⟩ b hb
    unfold has
    have : b / 64 = 0 ∨ b / 64 = 1 ∨ b / 64 = 2 ∨ b / 64 = 3 := by omega
    rcases this with e | e | e | e <;> rw [e] <;> simp [*]
  · intro h
    exact ⟨set_ext hS hT h 0 (by omega), set_ext hS hT h 1 (by omega), set_ext hS hT h 2 (by omega), set_ext hS hT h 3 (by omega)⟩
theorem cntB_pos {p : Nat → Bool} : ∀ {n : Nat}, 0 < cntB p n ↔ ∃ b, b < n ∧ p b = true
  | 0 => by simp [cntB]
  | n + 1 => by
    have ih := @cntB_pos p n
    have e : cntB p (n + 1) = cntB p n + if p n = true then 1 else 0 := by simp [cntB]
    rw [e]
    constructor
    · intro h
      by_cases hp : p n = true
      · exact ⟨n, by omega, hp⟩
      · rw [if_neg hp] at h
        obtain ⟨b, hb, hpb⟩ := ih.1 (by omega)
        exact ⟨b, by omega, hpb⟩
    · rintro ⟨b, hb, hpb⟩
      by_cases e : b = n
      · subst e; rw [if_pos hpb]; omega
      · have := ih.2 ⟨b, by omega, hpb⟩; omega
theorem cntS_pos {S : Nat → Nat} : 0 < cntS S ↔ ∃ b, b < 256 ∧ has S b = true := cntB_pos
/-- Are two bytes in the same ones of some sets? -/
def same (l : List (Nat → Nat)) (a b : Nat) : Bool := l.all fun S => has S a == has S b
theorem same_iff {l : List (Nat → Nat)} {a b : Nat} : same l a b = true ↔ ∀ S ∈ l, has S a = has S b := by unfold same; simp
theorem same_refl (l : List (Nat → Nat)) (a : Nat) : same l a a = true := same_iff.2 fun _ _ => rfl
theorem same_symm {l : List (Nat → Nat)} {a b : Nat} (h : same l a b = true) : same l b a = true := same_iff.2 fun S hS => (same_iff.1 h S hS).symm
theorem same_trans {l : List (Nat → Nat)} {a b c : Nat} (h : same l a b = true) (k : same l b c = true) : same l a c = true := same_iff.2 fun S hS => (same_iff.1 h S hS).trans (same_iff.1 k S hS)
def cutOne (S a : Nat → Nat) : List (Nat → Nat) := (if 0 < cntS (andS S a) then [andS S a] else []) ++ (if 0 < cntS (andS S (notS a)) then [andS S (notS a)] else [])
def cutSets (K : List (Nat → Nat)) (a : Nat → Nat) : List (Nat → Nat) := K.flatMap (cutOne · a)
def cutAll (l : List (Nat → Nat)) : List (Nat → Nat) := l.foldl cutSets [ofS 0 256]
structure Part (l K : List (Nat → Nat)) : Prop where
  ok : ∀ S ∈ K, okS S
  all : ∀ b, b < 256 → ∃ S ∈ K, has S b = true
  one : K.Pairwise fun S T => ∀ b, b < 256 → ¬ (has S b = true ∧ has T b = true)
  cls : ∀ S ∈ K, ∀ a b, a < 256 → b < 256 → has S a = true → (has S b = true ↔ same l a b = true)
theorem has_whole : ∀ b, b < 256 → has (ofS 0 256) b = true := by decide +kernel
theorem part_nil : Part [] [ofS 0 256] where
  ok := by intro S hS; rw [List.mem_singleton.1 hS]; exact of_ok 0 256
  all := fun b hb => ⟨_, List.mem_singleton.2 rfl, has_whole b hb⟩
  one := List.pairwise_singleton _ _
  cls := by
    intro S hS a b ha hb _
    rw [List.mem_singleton.1 hS, has_whole b hb]
    simp [same]
theorem mem_cutOne {S a T : Nat → Nat} : T ∈ cutOne S a ↔ (T = andS S a ∨ T = andS S (notS a)) ∧ 0 < cntS T := by
  unfold cutOne
  rw [List.mem_append]
  constructor
  · rintro (h | h)
    · split at h
      · rename_i hc; rw [List.mem_singleton.1 h]; exact ⟨.inl rfl, hc⟩
      · cases h
    · split at h
      · rename_i hc; rw [List.mem_singleton.1 h]; exact ⟨.inr rfl, hc⟩
      · cases h
  · rintro ⟨rfl | rfl, hc⟩
    · left; rw [if_pos hc]; exact List.mem_singleton.2 rfl
    · right; rw [if_pos hc]; exact List.mem_singleton.2 rfl
theorem same_snoc (l : List (Nat → Nat)) (a : Nat → Nat) (x y : Nat) : same (l ++ [a]) x y = (same l x y && (has a x == has a y)) := by unfold same; simp
theorem part_cut {l K : List (Nat → Nat)} (h : Part l K) {a : Nat → Nat} (ha : okS a) : Part (l ++ [a]) (cutSets K a) where
  ok := by
    intro T hT
    obtain ⟨S, hS, hT⟩ := List.mem_flatMap.1 hT
    rcases (mem_cutOne.1 hT).1 with rfl | rfl <;> exact and_ok (h.ok S hS)
  all := by
    intro b hb
    obtain ⟨S, hS, hb2⟩ := h.all b hb
    cases hab : has a b with
    | true => exact ⟨andS S a, List.mem_flatMap.2 ⟨S, hS, mem_cutOne.2 ⟨.inl rfl, cntS_pos.2 ⟨b, hb, by rw [has_and, hb2, hab]; rfl⟩⟩⟩, by rw [has_and, hb2, hab]; rfl⟩
    | false => exact ⟨andS S (notS a), List.mem_flatMap.2 ⟨S, hS, mem_cutOne.2 ⟨.inr rfl, cntS_pos.2 ⟨b, hb, by rw [has_and, hb2, has_not ha, hab]; rfl⟩⟩⟩, by rw [has_and, hb2, has_not ha, hab]; rfl⟩
  one := by
    unfold cutSets
    rw [List.pairwise_flatMap]
    constructor
    · intro S hS
      unfold cutOne
      (repeat' split) <;> simp [has_and, has_not ha]
      intro b _ _ h1 _; exact h1
    · refine h.one.imp fun {S T} hST x hx y hy b hb hxy => hST b hb ?_
      rcases (mem_cutOne.1 hx).1 with rfl | rfl <;> rcases (mem_cutOne.1 hy).1 with rfl | rfl <;> simp only [has_and, Bool.and_eq_true] at hxy <;> exact ⟨hxy.1.1, hxy.2.1⟩
  cls := by
    intro T hT x y hx hy hxT
    obtain ⟨S, hS, hT⟩ := List.mem_flatMap.1 hT
    rw [same_snoc]
    have hc := h.cls S hS x y hx hy
    rcases (mem_cutOne.1 hT).1 with rfl | rfl
    · rw [has_and, Bool.and_eq_true] at hxT
      rw [has_and, Bool.and_eq_true, Bool.and_eq_true, hc hxT.1, hxT.2]
      cases has a y <;> simp
    · rw [has_and, has_not ha, Bool.and_eq_true] at hxT
      rw [has_and, has_not ha, Bool.and_eq_true, Bool.and_eq_true, hc hxT.1]
      have : has a x = false := by simpa using hxT.2
      rw [this]
      cases has a y <;> simp
theorem part_from : ∀ (l m K : List (Nat → Nat)), Part m K → (∀ S ∈ l, okS S) → Part (m ++ l) (l.foldl cutSets K)
  | [], m, K, h, _ => by rw [List.append_nil]; exact h
  | a :: l, m, K, h, ho => by
    have := part_from l (m ++ [a]) (cutSets K a) (part_cut h (ho a (by simp))) (fun S hS => ho S (by simp [hS]))
    rw [List.append_assoc] at this
    exact this
theorem part_all (l : List (Nat → Nat)) (ho : ∀ S ∈ l, okS S) : Part l (cutAll l) := by
  have := part_from l [] _ part_nil ho
  rwa [List.nil_append] at this
/-- Which set a byte is in: the last one that has it, else the first. -/
def keyS (K : List (Nat → Nat)) : Nat → Nat → Nat
  | 0, _ => 0
  | k + 1, b => if has (K.getD k zeroS) b = true then k else keyS K k b
theorem keyS_le (K : List (Nat → Nat)) (b : Nat) : ∀ k, keyS K k b ≤ k
  | 0 => Nat.le_refl _
  | k + 1 => by unfold keyS; split <;> have := keyS_le K b k <;> omega
theorem keyS_at {K : List (Nat → Nat)} {b i : Nat} (hi : has (K.getD i zeroS) b = true) : ∀ k, i < k → (∀ j, j < k → has (K.getD j zeroS) b = true → j = i) → keyS K k b = i
  | 0, h, _ => by omega
  | k + 1, h, hu => by
    unfold keyS
    by_cases hk : has (K.getD k zeroS) b = true
    · rw [if_pos hk]; exact hu k (by omega) hk
    · rw [if_neg hk]
      have : i ≠ k := fun e => hk (e ▸ hi)
      exact keyS_at hi k (by omega) (fun j hj => hu j (by omega))
theorem keyS_part {l K : List (Nat → Nat)} (h : Part l K) {b : Nat} (hb : b < 256) : ∃ hk : keyS K K.length b < K.length, has (K[keyS K K.length b]'hk) b = true := by
  obtain ⟨S, hS, hSb⟩ := h.all b hb
  obtain ⟨i, hi, rfl⟩ := List.getElem_of_mem hS
  have e : keyS K K.length b = i := keyS_at (by rw [List.getD_eq_getElem?_getD, List.getElem?_eq_getElem hi]; exact hSb) K.length hi fun j hj hjb => by
    rw [List.getD_eq_getElem?_getD, List.getElem?_eq_getElem hj] at hjb
    have P := List.pairwise_iff_getElem.1 h.one
    rcases Nat.lt_trichotomy i j with h1 | h1 | h1
    · exact absurd ⟨hSb, hjb⟩ (P i j hi hj h1 b hb)
    · exact h1.symm
    · exact absurd ⟨hjb, hSb⟩ (P j i hj hi h1 b hb)
  exact ⟨by omega, by simp only [e]; exact hSb⟩
theorem keyS_same {l K : List (Nat → Nat)} (h : Part l K) {a b : Nat} (ha : a < 256) (hb : b < 256) : (keyS K K.length a = keyS K K.length b) ↔ same l a b = true := by
  obtain ⟨ka, hka⟩ := keyS_part h ha
  obtain ⟨kb, hkb⟩ := keyS_part h hb
  constructor
  · intro e
    have : has K[keyS K K.length a] b = true := by simp only [e]; exact hkb
    exact (h.cls _ (List.getElem_mem ka) a b ha hb hka).1 this
  · intro hs
    have hb2 := (h.cls _ (List.getElem_mem ka) a b ha hb hka).2 hs
    have P := List.pairwise_iff_getElem.1 h.one
    rcases Nat.lt_trichotomy (keyS K K.length a) (keyS K K.length b) with h1 | h1 | h1
    · exact absurd ⟨hb2, hkb⟩ (P _ _ ka kb h1 b hb)
    · exact h1
    · exact absurd ⟨hkb, hb2⟩ (P _ _ kb ka h1 b hb)
/-! The numbers of classes: by their least bytes. -/
def reps (r : Nat → Nat → Bool) : Nat → List Nat
  | 0 => []
  | n + 1 => if (reps r n).any (fun a => r a n) = true then reps r n else reps r n ++ [n]
def clsR (r : Nat → Nat → Bool) (n b : Nat) : Nat := (reps r n).findIdx fun a => r a b
theorem reps_lt (r : Nat → Nat → Bool) : ∀ n, ∀ a ∈ reps r n, a < n
  | 0, a, h => by cases h
  | n + 1, a, h => by
    unfold reps at h
    split at h
    · have := reps_lt r n a h; omega
    · rcases List.mem_append.1 h with h | h
      · have := reps_lt r n a h; omega
      · rw [List.mem_singleton.1 h]; omega
theorem reps_len (r : Nat → Nat → Bool) : ∀ n, (reps r n).length ≤ n
  | 0 => Nat.le_refl _
  | n + 1 => by unfold reps; split <;> have := reps_len r n <;> simp <;> omega
theorem reps_pre (r : Nat → Nat → Bool) (n : Nat) : ∀ k, ∃ t, reps r (n + k) = reps r n ++ t ∧ ∀ x ∈ t, n ≤ x
  | 0 => ⟨[], (List.append_nil _).symm, fun x h => by cases h⟩
  | k + 1 => by
    obtain ⟨t, ht, hx⟩ := reps_pre r n k
    show ∃ t, (if (reps r (n + k)).any (fun a => r a (n + k)) = true then reps r (n + k) else reps r (n + k) ++ [n + k]) = _ ∧ _
    split
    · exact ⟨t, ht, hx⟩
    · refine ⟨t ++ [n + k], by rw [ht, List.append_assoc], fun x h => ?_⟩
      rcases List.mem_append.1 h with h | h
      · exact hx x h
      · rw [List.mem_singleton.1 h]; omega
theorem reps_all {r : Nat → Nat → Bool} (hr : ∀ a, r a a = true) : ∀ n b, b < n → ∃ a ∈ reps r n, r a b = true ∧ a ≤ b
  | n + 1, b, hb => by
    unfold reps
    by_cases e : b = n
    · subst e
      split
      · rename_i h
        obtain ⟨a, ha, hra⟩ := List.any_eq_true.1 h
        exact ⟨a, ha, hra, Nat.le_of_lt (reps_lt r b a ha)⟩
      · exact ⟨b, by simp, hr b, Nat.le_refl _⟩
    · obtain ⟨a, ha, hra⟩ := reps_all hr n b (by omega)
      split
      · exact ⟨a, ha, hra⟩
      · exact ⟨a, by simp [ha], hra⟩
theorem reps_apart (r : Nat → Nat → Bool) : ∀ n, (reps r n).Pairwise fun a b => r a b = false ∧ a < b
  | 0 => List.Pairwise.nil
  | n + 1 => by
    unfold reps
    split
    · exact reps_apart r n
    · rename_i h
      rw [List.pairwise_append]
      refine ⟨reps_apart r n, List.pairwise_singleton _ _, fun a ha b hb => ?_⟩
      rw [List.mem_singleton.1 hb]
      refine ⟨?_, reps_lt r n a ha⟩
      cases hra : r a n with
      | false => rfl
      | true => exact absurd (List.any_eq_true.2 ⟨a, ha, hra⟩) h
theorem clsR_lt {r : Nat → Nat → Bool} (hr : ∀ a, r a a = true) {n b : Nat} (hb : b < n) : clsR r n b < (reps r n).length := by
  obtain ⟨a, ha, h⟩ := reps_all hr n b hb
  exact List.findIdx_lt_length_of_exists ⟨a, ha, h.1⟩
theorem clsR_more {r : Nat → Nat → Bool} (hr : ∀ a, r a a = true) {n b : Nat} (hb : b < n) (k : Nat) : clsR r (n + k) b = clsR r n b := by
  obtain ⟨t, ht, _⟩ := reps_pre r n k
  have := clsR_lt hr hb
  unfold clsR at *
  rw [ht, List.findIdx_append, if_pos this]
theorem clsR_rep {r : Nat → Nat → Bool} (hr : ∀ a, r a a = true) {n b : Nat} (hb : b < n) : r ((reps r n)[clsR r n b]'(clsR_lt hr hb)) b = true := List.findIdx_getElem (w := clsR_lt hr hb)
structure Eqv (r : Nat → Nat → Bool) : Prop where
  refl : ∀ a, r a a = true
  symm : ∀ {a b}, r a b = true → r b a = true
  trans : ∀ {a b c}, r a b = true → r b c = true → r a c = true
theorem eqv_same (l : List (Nat → Nat)) : Eqv (same l) := ⟨same_refl l, same_symm, same_trans⟩
theorem clsR_at {r : Nat → Nat → Bool} (E : Eqv r) {n b c : Nat} (hc : c < (reps r n).length) (h : r (reps r n)[c] b = true) : clsR r n b = c := by
  unfold clsR
  rw [List.findIdx_eq hc]
  refine ⟨h, fun j hj => ?_⟩
  have := (List.pairwise_iff_getElem.1 (reps_apart r n) j c (by omega) hc hj).1
  cases hx : r (reps r n)[j] b with
  | false => rfl
  | true => rw [E.trans hx (E.symm h)] at this; cases this
theorem clsR_iff {r : Nat → Nat → Bool} (E : Eqv r) {n a b : Nat} (ha : a < n) (hb : b < n) : clsR r n a = clsR r n b ↔ r a b = true := by
  have h1 := clsR_rep E.refl ha
  constructor
  · intro e
    have h2 := clsR_rep E.refl hb
    simp only [← e] at h2
    exact E.trans (E.symm h1) h2
  · intro h
    exact (clsR_at E (clsR_lt E.refl ha) (E.trans h1 h)).symm
theorem clsR_least {r : Nat → Nat → Bool} (E : Eqv r) {n c : Nat} (hc : c < (reps r n).length) : clsR r n (reps r n)[c] = c ∧ (reps r n)[c] < n ∧ ∀ b, b < (reps r n)[c] → clsR r n b ≠ c := by
  have h1 := reps_lt r n _ (List.getElem_mem hc)
  refine ⟨clsR_at E hc (E.refl _), h1, fun b hb e => ?_⟩
  obtain ⟨a, ha, hra, hab⟩ := reps_all E.refl n b (by omega)
  obtain ⟨j, hj, rfl⟩ := List.getElem_of_mem ha
  have := clsR_at E hj hra
  rw [e] at this
  subst this
  omega
theorem reps_old {r : Nat → Nat → Bool} (E : Eqv r) {b a : Nat} (ha : a < b) (h : r a b = true) : reps r (b + 1) = reps r b := by
  show (if _ then _ else _) = _
  rw [if_pos]
  obtain ⟨x, hx, hxa, _⟩ := reps_all E.refl b a ha
  exact List.any_eq_true.2 ⟨x, hx, E.trans hxa h⟩
theorem reps_new {r : Nat → Nat → Bool} {b : Nat} (h : ∀ a, a < b → r a b = false) : reps r (b + 1) = reps r b ++ [b] := by
  show (if _ then _ else _) = _
  rw [if_neg]
  intro hc
  obtain ⟨x, hx, hxa⟩ := List.any_eq_true.1 hc
  rw [h x (reps_lt r b x hx)] at hxa
  cases hxa
theorem clsR_new {r : Nat → Nat → Bool} (E : Eqv r) {b n : Nat} (hb : b < n) (h : ∀ a, a < b → r a b = false) : clsR r n b = (reps r b).length := by
  have e := reps_new h
  have hl : (reps r b).length < (reps r (b + 1)).length := by rw [e]; simp
  have h1 : clsR r (b + 1) b = (reps r b).length := clsR_at E hl (by simp only [e]; rw [List.getElem_append_right (by omega)]; simp; exact E.refl b)
  obtain ⟨k, rfl⟩ : ∃ k, n = b + 1 + k := ⟨n - (b + 1), by omega⟩
  rw [clsR_more E.refl (by omega), h1]
theorem reps_congr {r q : Nat → Nat → Bool} {N : Nat} (h : ∀ a b, a < N → b < N → r a b = q a b) : ∀ n, n ≤ N → reps r n = reps q n
  | 0, _ => rfl
  | n + 1, hn => by
    have ih := reps_congr h n (by omega)
    show (if _ then _ else _) = (if _ then _ else _)
    rw [ih]
    have e : (reps q n).any (fun a => r a n) = (reps q n).any (fun a => q a n) := by
      rw [Bool.eq_iff_iff, List.any_eq_true, List.any_eq_true]
      constructor
      · rintro ⟨a, ha, hra⟩; exact ⟨a, ha, by rw [← h a n (by have := reps_lt q n a ha; omega) (by omega)]; exact hra⟩
      · rintro ⟨a, ha, hra⟩; exact ⟨a, ha, by rw [h a n (by have := reps_lt q n a ha; omega) (by omega)]; exact hra⟩
    rw [e]
/-- A byte's class, and how many there are. -/
def cl (l : List (Nat → Nat)) (b : Nat) : Nat := clsR (same l) 256 b
def nc (l : List (Nat → Nat)) : Nat := (reps (same l) 256).length
theorem nc_le (l : List (Nat → Nat)) : nc l ≤ 256 := reps_len _ _
theorem cl_lt (l : List (Nat → Nat)) {b : Nat} (hb : b < 256) : cl l b < nc l := clsR_lt (same_refl l) hb
theorem cl_iff (l : List (Nat → Nat)) {a b : Nat} (ha : a < 256) (hb : b < 256) : cl l a = cl l b ↔ same l a b = true := clsR_iff (eqv_same l) ha hb
/-- What sets of classes are. -/
structure IsCls (l K : List (Nat → Nat)) : Prop where
  len : K.length = nc l
  ok : ∀ S ∈ K, okS S
  at_ : ∀ c (hc : c < K.length) b, b < 256 → has K[c] b = decide (cl l b = c)
theorem isCls_reps {l K : List (Nat → Nat)} (h : Part l K) : IsCls l ((reps (same l) 256).map fun a => K.getD (keyS K K.length a) zeroS) where
  len := List.length_map _
  ok := by
    intro S hS
    obtain ⟨a, ha, rfl⟩ := List.mem_map.1 hS
    obtain ⟨hk, _⟩ := keyS_part h (reps_lt _ _ a ha)
    rw [List.getD_eq_getElem?_getD, List.getElem?_eq_getElem hk]
    exact h.ok _ (List.getElem_mem hk)
  at_ := by
    intro c hc b hb
    rw [List.length_map] at hc
    rw [List.getElem_map]
    have ha := reps_lt _ _ _ (List.getElem_mem hc)
    obtain ⟨hk, hka⟩ := keyS_part h ha
    rw [List.getD_eq_getElem?_getD, List.getElem?_eq_getElem hk, Option.getD_some, Bool.eq_iff_iff, h.cls _ (List.getElem_mem hk) _ b ha hb hka, ← cl_iff l ha hb, decide_eq_true_iff]
    have h1 := (clsR_least (eqv_same l) (n := 256) hc).1
    unfold cl
    rw [h1]
    exact eq_comm
end Go.Proofs.YtonicgbejmghkaaDoor
