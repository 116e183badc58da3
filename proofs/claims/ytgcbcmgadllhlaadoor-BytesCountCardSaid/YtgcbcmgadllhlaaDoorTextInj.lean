/- Unlike sets have unlike texts: the whole law, plain Lean. -/
import Derived.Test.YtgcbcmgadllhlaaDoorTextPure
namespace Go.Proofs.YtgcbcmgadllhlaaDoor
theorem span_snoc (a n : Nat) : span a (n + 1) = span a n ++ [a + n] := by
  unfold span; rw [List.range_succ, List.map_append]; rfl
theorem bytesOf_snoc (l : List (Nat × Nat)) (a b : Nat) : bytesOf (l ++ [(a, b)]) = bytesOf l ++ span a (b + 1 - a) := by
  unfold bytesOf; rw [List.flatMap_append, List.flatMap_cons, List.flatMap_nil, List.append_nil]
theorem upto_yes {p : Nat → Bool} {n : Nat} (h : p n = true) : upto p (n + 1) = upto p n ++ [n] := by show (if p n = true then _ else _) = _; rw [if_pos h]
theorem upto_no {p : Nat → Bool} {n : Nat} (h : ¬ p n = true) : upto p (n + 1) = upto p n := by show (if p n = true then _ else _) = _; rw [if_neg h]
theorem runs_no {p : Nat → Bool} {n : Nat} (h : ¬ p n = true) : runs p (n + 1) = runs p n := by show (if p n = true then _ else _) = _; rw [if_neg h]
/-- The bytes of a set's ranges are the set's. -/
theorem bytes_runs (p : Nat → Bool) : ∀ n, bytesOf (runs p n) = upto p n
  | 0 => rfl
  | n + 1 => by
    have ih := bytes_runs p n
    by_cases h : p n = true
    · by_cases g : n = 0 ∨ p (n - 1) = false
      · rw [runs_begin p n h g, bytesOf_snoc, upto_yes h, ih, show n + 1 - n = 1 from by omega, span_one]
      · obtain ⟨m, rfl⟩ : ∃ m, n = m + 1 := ⟨n - 1, by omega⟩
        have g' : p m = true := by
          cases hp : p m with
          | true => rfl
          | false => exact absurd (.inr hp) g
        obtain ⟨l, a, e, ha⟩ := runs_last p m g'
        rw [e, bytesOf_snoc] at ih
        rw [runs_on p m a l e h g', bytesOf_snoc, upto_yes h, ← ih, show m + 1 + 1 - a = (m + 1 - a) + 1 from by omega, span_snoc, show a + (m + 1 - a) = m + 1 from by omega, List.append_assoc]
    · rw [runs_no h, upto_no h, ih]
theorem bytes_inside (S : Nat → Nat) : decode 512 0 (insideB S) = upto (has S) 256 := by
  have hl := rangesS_len S
  unfold insideB
  rw [decode_ranges (rangesS S) 512 0 (fun x hx => runs_ends _ _ x hx) (by omega)]
  exact bytes_runs _ _
theorem upto_inj {p q : Nat → Bool} {n : Nat} (h : upto p n = upto q n) (b : Nat) (hb : b < n) : p b = q b := by
  have h1 := upto_mem p n b
  have h2 := upto_mem q n b
  rw [h] at h1
  have := h1.symm.trans h2
  cases hp : p b <;> cases hq : q b <;> simp_all
theorem cntB_full {p : Nat → Bool} : ∀ {n : Nat}, cntB p n = n → ∀ i, i < n → p i = true
  | 0, _, i, hi => by omega
  | n + 1, h, i, hi => by
    have hl := cntB_le p n
    have e : cntB p (n + 1) = cntB p n + (if p n then 1 else 0) := rfl
    rw [e] at h
    have hn : p n = true := by
      cases hp : p n with
      | true => rfl
      | false => rw [hp] at h; simp at h; omega
    rw [hn] at h
    simp at h
    rcases Nat.lt_or_ge i n with g | g
    · exact cntB_full h i g
    · have : i = n := by omega
      rw [this]; exact hn
theorem one_least (S : Nat → Nat) (h : cntS S = 1) : ∃ k, k < 256 ∧ upto (has S) 256 = [k] ∧ leastS S = (k : Int) := by
  have hc := upto_cnt (has S) 256
  rcases upto_head (has S) 256 with ⟨h1, _⟩ | ⟨k, l, h1, h2, h3⟩
  · rw [h1] at hc; unfold cntS at h; rw [h] at hc; cases hc
  · rw [h1] at hc; unfold cntS at h; rw [h] at hc
    have : l = [] := by cases l with | nil => rfl | cons _ _ => simp at hc
    rw [this] at h1
    exact ⟨k, h3, h1, h2⟩
theorem inside_cons (S : Nat → Nat) : insideB S = [] ∨ ∃ c l, insideB S = c :: l ∧ ownSign c = false := by
  unfold insideB
  cases h : rangesS S with
  | nil => exact .inl rfl
  | cons x l =>
    have hx : x.1 ≤ x.2 ∧ x.2 < 256 := runs_ends (has S) 256 x (by show x ∈ rangesS S; rw [h]; exact List.mem_cons_self ..)
    obtain ⟨c, l', h1, h2⟩ := esc_cons x.1 (by omega)
    refine .inr ⟨c, l' ++ (if x.2 = x.1 then [] else if x.2 = x.1 + 1 then escB x.2 else 45 :: escB x.2) ++ rangesB l, ?_, h2⟩
    unfold rangesB; rw [List.flatMap_cons]; unfold rangeB; rw [h1]; simp
/-- The four forms of a text. -/
inductive Form (S : Nat → Nat) : Prop
  | all (h : cntS S = 256) (e : textB S = [46])
  | one (k : Nat) (hk : k < 256) (h : upto (has S) 256 = [k]) (e : textB S = escB k)
  | few (e : textB S = 91 :: (insideB S ++ [93]))
  | many (e : textB S = 91 :: 94 :: (insideB (notS S) ++ [93]))
theorem form (S : Nat → Nat) : Form S := by
  by_cases h1 : cntS S = 256
  · exact .all h1 (by unfold textB; rw [if_pos h1])
  · by_cases h2 : cntS S = 1
    · obtain ⟨k, hk, hu, hl⟩ := one_least S h2
      exact .one k hk hu (by unfold textB; rw [if_neg h1, if_pos h2, hl]; rfl)
    · by_cases h3 : cntS S ≤ 128
      · exact .few (by unfold textB; rw [if_neg h1, if_neg h2, if_pos h3]; rfl)
      · exact .many (by unfold textB; rw [if_neg h1, if_neg h2, if_neg h3]; rfl)
theorem few_inj {S T : Nat → Nat} (h : insideB S ++ [93] = insideB T ++ [93]) (b : Nat) (hb : b < 256) : has S b = has T b := by
  have h' := List.append_cancel_right h
  exact upto_inj (n := 256) (by rw [← bytes_inside S, ← bytes_inside T, h']) b hb
theorem few_many {S T : Nat → Nat} (h : insideB S ++ [93] = 94 :: (insideB T ++ [93])) : False := by
  rcases inside_cons S with e | ⟨c, l, e, hc⟩
  · rw [e, List.nil_append] at h; injection h with h _; revert h; decide
  · rw [e, List.cons_append] at h; injection h with h _; rw [h] at hc; revert hc; decide
theorem esc_not {k : Nat} (hk : k < 256) {c : UInt8} {l : List UInt8} (h : escB k = c :: l) (hc : ownSign c = true) : False := by
  obtain ⟨c', l', h1, h2⟩ := esc_cons k hk
  rw [h1] at h; injection h with h _; rw [h, hc] at h2; cases h2
theorem text_inj {S T : Nat → Nat} (hS : okS S) (hT : okS T) (h : textB S = textB T) (b : Nat) (hb : b < 256) : has S b = has T b := by
  rcases form S with ⟨a1, e1⟩ | ⟨k1, g1, a1, e1⟩ | e1 | e1 <;> rcases form T with ⟨a2, e2⟩ | ⟨k2, g2, a2, e2⟩ | e2 | e2 <;> rw [e1, e2] at h
  · exact (cntB_full a1 b hb).trans (cntB_full a2 b hb).symm
  · exact (esc_not g2 h.symm (by decide)).elim
  · injection h with h _; exact absurd h (by decide)
  · injection h with h _; exact absurd h (by decide)
  · exact (esc_not g1 h (by decide)).elim
  · have u1 := unEsc_esc k1 g1 []
    have u2 := unEsc_esc k2 g2 []
    rw [h, u2] at u1
    have e : k2 = k1 := by injection u1 with u1; injection u1
    rw [e] at a2
    exact upto_inj (a1.trans a2.symm) b hb
  · exact (esc_not g1 h (by decide)).elim
  · exact (esc_not g1 h (by decide)).elim
  · injection h with h _; exact absurd h (by decide)
  · exact (esc_not g2 h.symm (by decide)).elim
  · injection h with _ h; exact few_inj h b hb
  · injection h with _ h; exact (few_many h).elim
  · injection h with h _; exact absurd h (by decide)
  · exact (esc_not g2 h.symm (by decide)).elim
  · injection h with _ h; exact (few_many h.symm).elim
  · injection h with _ h; injection h with _ h
    have := few_inj h b hb
    rw [has_not hS, has_not hT] at this
    cases h1 : has S b <;> cases h2 : has T b <;> simp_all
theorem esc_inj {x y : Nat} (hx : x < 256) (hy : y < 256) (h : escB x = escB y) : x = y := by
  have u1 := unEsc_esc x hx []
  have u2 := unEsc_esc y hy []
  rw [h, u2] at u1
  injection u1 with u1; injection u1 with u1; exact u1.symm
theorem text_one : ∀ x, x < 256 → textB (oneS x) = escB x := by decide +kernel
end Go.Proofs.YtgcbcmgadllhlaaDoor
