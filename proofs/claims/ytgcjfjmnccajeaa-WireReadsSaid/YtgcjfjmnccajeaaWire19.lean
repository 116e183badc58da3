/- What the wire's ReadResponse and PrintResponse answer, in plain words. -/
import Derived.Test.YtgcjfjmnccajeaaWire18
import Derived.Test.YtgcjfjmnccajeaaWire13
namespace Go.Proofs.Ytgcjfjmnccajeaa
open Go.RowKit
theorem readN_limit {limit : Nat} (hl : limit ≤ most) (s : List UInt8) : readN limit s = (match readN most s with | none => none | some (n, r) => if n ≤ limit then some (n, r) else none) := by
  unfold readN
  cases h : rdF 7 0 0 s with
  | none => rfl
  | some p =>
    obtain ⟨n, r⟩ := p
    simp only
    by_cases h1 : n ≤ limit
    · rw [if_pos h1, if_pos (Nat.le_trans h1 hl)]; simp only; rw [if_pos h1]
    · rw [if_neg h1]
      by_cases h2 : n ≤ most
      · rw [if_pos h2]; simp only; rw [if_neg h1]
      · rw [if_neg h2]
theorem readNs_cons {k : Nat} {s : List UInt8} : readNs most (k + 1) s = (match readN most s with | none => none | some (n, r) => match readNs most k r with | none => none | some (l, r2) => some (n :: l, r2)) := rfl
theorem tokP_true (r : List UInt8) : (tokP r true).2.2 = true := by
  obtain ⟨⟨a, r1, b1⟩, h1⟩ : ∃ x, rdP 255 7 0 0 r true = x := ⟨_, rfl⟩
  have e1 : b1 = true := by have := rdP_true 255 7 0 0 r; rw [h1] at this; exact this
  subst e1
  obtain ⟨⟨b, r2, b2⟩, h2⟩ : ∃ x, rdP most 7 0 0 r1 true = x := ⟨_, rfl⟩
  have e2 : b2 = true := by have := rdP_true most 7 0 0 r1; rw [h2] at this; exact this
  subst e2
  obtain ⟨⟨c, r3, b3⟩, h3⟩ : ∃ x, rdP most 7 0 0 r2 true = x := ⟨_, rfl⟩
  have e3 : b3 = true := by have := rdP_true most 7 0 0 r2; rw [h3] at this; exact this
  subst e3
  rw [tokP_eq _ _ _ _ _ _ _ _ _ _ _ h1 h2 h3]
  rfl
theorem tokP_bad2 {r r1 r2 : List UInt8} {a b : Nat} {b1 : Bool} (h1 : rdP 255 7 0 0 r false = (a, r1, b1)) (h2 : rdP most 7 0 0 r1 b1 = (b, r2, true)) : (tokP r false).2.2 = true := by
  obtain ⟨⟨c, r3, b3⟩, h3⟩ : ∃ x, rdP most 7 0 0 r2 true = x := ⟨_, rfl⟩
  have e3 : b3 = true := by have := rdP_true most 7 0 0 r2; rw [h3] at this; exact this
  subst e3
  rw [tokP_eq _ _ _ _ _ _ _ _ _ _ _ h1 h2 h3]
  rfl
theorem tokP_bad1 {r r1 : List UInt8} {a : Nat} (h1 : rdP 255 7 0 0 r false = (a, r1, true)) : (tokP r false).2.2 = true := by
  obtain ⟨⟨b, r2, b2⟩, h2⟩ : ∃ x, rdP most 7 0 0 r1 true = x := ⟨_, rfl⟩
  have e2 : b2 = true := by have := rdP_true most 7 0 0 r1; rw [h2] at this; exact this
  subst e2
  exact tokP_bad2 h1 h2
theorem tokP_read (r : List UInt8) : (∃ t r2, readT r = some (t, r2) ∧ tokP r false = (t, r2, false)) ∨ (readT r = none ∧ (tokP r false).2.2 = true) := by
  unfold readT
  rw [readNs_cons]
  have L := readN_limit (limit := 255) (by decide) r
  rcases rdP_read 255 r with ⟨a, r1, h1, h2⟩ | ⟨h1, h2⟩
  · rw [h1] at L
    cases hm : readN most r with
    | none => rw [hm] at L; cases L
    | some p =>
      obtain ⟨n, r'⟩ := p
      rw [hm] at L
      simp only at L
      split at L
      · injection L with L; injection L with e1 e2; subst e1 e2
        simp only
        rw [readNs_cons]
        rcases rdP_read most r1 with ⟨b, r2, h3, h4⟩ | ⟨h3, h4⟩
        · rw [h3]
          simp only
          rw [readNs_cons]
          rcases rdP_read most r2 with ⟨c, r3, h5, h6⟩ | ⟨h5, h6⟩
          · rw [h5, tokP_eq _ _ _ _ _ _ _ _ _ _ _ h2 h4 h6]
            simp only [readNs]
            by_cases hbc : b + c ≤ most
            · rw [if_pos ⟨by assumption, hbc⟩]
              exact .inl ⟨_, _, rfl, by rw [decide_eq_false (by omega)]; rfl⟩
            · rw [if_neg (fun h => hbc h.2)]
              exact .inr ⟨rfl, by rw [decide_eq_true (by omega)]; rfl⟩
          · rw [h5]
            refine .inr ⟨rfl, ?_⟩
            obtain ⟨⟨c, r3, b3⟩, h7⟩ : ∃ x, rdP most 7 0 0 r2 false = x := ⟨_, rfl⟩
            rw [h7] at h6
            simp only at h6
            subst h6
            rw [tokP_eq _ _ _ _ _ _ _ _ _ _ _ h2 h4 h7]
            rfl
        · rw [h3]
          refine .inr ⟨rfl, ?_⟩
          obtain ⟨⟨b, r2, b2⟩, h5⟩ : ∃ x, rdP most 7 0 0 r1 false = x := ⟨_, rfl⟩
          rw [h5] at h4
          simp only at h4
          subst h4
          exact tokP_bad2 h2 h5
      · cases L
  · have hb : (tokP r false).2.2 = true := by
      obtain ⟨⟨a, r1, b1⟩, h3⟩ : ∃ x, rdP 255 7 0 0 r false = x := ⟨_, rfl⟩
      rw [h3] at h2
      simp only at h2
      subst h2
      exact tokP_bad1 h3
    refine .inr ⟨?_, hb⟩
    cases hm : readN most r with
    | none => rfl
    | some p =>
      obtain ⟨n, r'⟩ := p
      rw [h1, hm] at L
      simp only at L
      split at L
      · cases L
      · rename_i hn
        simp only
        cases h3 : readNs most 2 r' with
        | none => rfl
        | some p2 =>
          obtain ⟨l, r2⟩ := p2
          have hlen := readNs_len most 2 r' l r2 h3
          match l, hlen with
          | [b, c], _ =>
            simp only
            rw [if_neg (fun h => hn h.1)]
theorem toksP_read : ∀ (n : Nat) (acc : List (Int × Int × Int)) (r : List UInt8), (∃ l r2, readTs n r = some (l, r2) ∧ toksP n acc r false = (acc ++ l, r2, false)) ∨ (readTs n r = none ∧ (toksP n acc r false).2.2 = true)
  | 0, acc, r => .inl ⟨[], r, rfl, by simp [toksP]⟩
  | n + 1, acc, r => by
    have e : toksP (n + 1) acc r false = toksP n (acc ++ [(tokP r false).1]) (tokP r false).2.1 (tokP r false).2.2 := rfl
    have e2 : readTs (n + 1) r = (match readT r with | none => none | some (t, r) => match readTs n r with | none => none | some (l, r2) => some (t :: l, r2)) := rfl
    rw [e, e2]
    rcases tokP_read r with ⟨t, r2, h1, h2⟩ | ⟨h1, h2⟩
    · rw [h1, h2]
      simp only
      rcases toksP_read n (acc ++ [t]) r2 with ⟨l, r3, h3, h4⟩ | ⟨h3, h4⟩
      · rw [h3, h4]
        exact .inl ⟨t :: l, r3, rfl, by simp⟩
      · rw [h3]
        exact .inr ⟨rfl, h4⟩
    · rw [h1, h2, toks_done]
      exact .inr ⟨rfl, rfl⟩
theorem spP_read (s : List UInt8) : (∃ r rest, readR s = some (r, rest) ∧ (spP s).1.1 = r.err ∧ (spP s).1.2 = r.at_ ∧ (spP s).2.1 = r.toks ∧ (spP s).2.2.1 = rest ∧ (spP s).2.2.2 = false) ∨ (readR s = none ∧ (spP s).2.2.2 = true) := by
  have bad3 : ∀ (a b c : Nat) (r1 r2 r3 : List UInt8) (b1 b2 : Bool), oneB s false = (a, r1, b1) → rdP most 7 0 0 r1 b1 = (b, r2, b2) → rdP 4000 7 0 0 r2 b2 = (c, r3, true) → (spP s).2.2.2 = true := fun a b c r1 r2 r3 b1 b2 h1 h2 h3 => by
    rw [spP_eq s a b c r1 r2 r3 b1 b2 true h1 h2 h3, Bool.true_or, toks_done]
  have bad2 : ∀ (a b : Nat) (r1 r2 : List UInt8) (b1 : Bool), oneB s false = (a, r1, b1) → rdP most 7 0 0 r1 b1 = (b, r2, true) → (spP s).2.2.2 = true := fun a b r1 r2 b1 h1 h2 => by
    obtain ⟨⟨c, r3, b3⟩, h3⟩ : ∃ x, rdP 4000 7 0 0 r2 true = x := ⟨_, rfl⟩
    have e3 : b3 = true := by have := rdP_true 4000 7 0 0 r2; rw [h3] at this; exact this
    subst e3
    exact bad3 a b c r1 r2 r3 b1 true h1 h2 h3
  match s, bad3, bad2 with
  | [], bad3, bad2 =>
    refine .inr ⟨rfl, ?_⟩
    obtain ⟨⟨b, r2, b2⟩, h2⟩ : ∃ x, rdP most 7 0 0 [] true = x := ⟨_, rfl⟩
    have e2 : b2 = true := by have := rdP_true most 7 0 0 []; rw [h2] at this; exact this
    subst e2
    exact bad2 0 b [] r2 true rfl h2
  | c :: s, bad3, bad2 =>
    have h1 : oneB (c :: s) false = (c.toNat, s, false) := rfl
    simp only [readR]
    rw [readNs_cons]
    rcases rdP_read most s with ⟨a, r1, h2, h3⟩ | ⟨h2, h3⟩
    · rw [h2]
      simp only
      rw [readNs_cons]
      have L := readN_limit (limit := 4000) (by decide) r1
      rcases rdP_read 4000 r1 with ⟨n, r2, h4, h5⟩ | ⟨h4, h5⟩
      · rw [h4] at L
        cases hm : readN most r1 with
        | none => rw [hm] at L; cases L
        | some p =>
          obtain ⟨n', r'⟩ := p
          rw [hm] at L
          simp only at L
          split at L
          · rename_i hn
            injection L with L; injection L with e1 e2; subst e1 e2
            simp only [readNs]
            rw [spP_eq (c :: s) c.toNat a n s r1 r2 false false false h1 h3 h5]
            by_cases hc : 13 < c.toNat
            · rw [if_pos hc, decide_eq_true hc, Bool.false_or, toks_done]
              exact .inr ⟨rfl, rfl⟩
            · rw [if_neg hc, decide_eq_false hc, Bool.false_or, if_neg (by omega)]
              rcases toksP_read n [] r2 with ⟨l, r3, h6, h7⟩ | ⟨h6, h7⟩
              · rw [h6, h7]
                exact .inl ⟨_, _, rfl, rfl, rfl, rfl, rfl, rfl⟩
              · rw [h6]
                exact .inr ⟨rfl, h7⟩
          · cases L
      · have hb : (spP (c :: s)).2.2.2 = true := by
          obtain ⟨⟨n, r2, b2⟩, h6⟩ : ∃ x, rdP 4000 7 0 0 r1 false = x := ⟨_, rfl⟩
          rw [h6] at h5
          simp only at h5
          subst h5
          exact bad3 c.toNat a n s r1 r2 false false h1 h3 h6
        refine .inr ⟨?_, hb⟩
        by_cases hc : 13 < c.toNat
        · rw [if_pos hc]
        · rw [if_neg hc]
          cases hm : readN most r1 with
          | none => rfl
          | some p =>
            obtain ⟨n', r'⟩ := p
            rw [h4, hm] at L
            simp only at L
            split at L
            · cases L
            · simp only [readNs]; rw [if_pos (by omega)]
    · have hb : (spP (c :: s)).2.2.2 = true := by
        obtain ⟨⟨n, r2, b2⟩, h6⟩ : ∃ x, rdP most 7 0 0 s false = x := ⟨_, rfl⟩
        rw [h6] at h3
        simp only at h3
        subst h3
        exact bad2 c.toNat n s r2 false h1 h6
      rw [h2]
      refine .inr ⟨?_, hb⟩
      simp only
      split <;> rfl
theorem RespE_some {s rest : List UInt8} {r : Rp} {w w' : World} {e : Ending} (h : readR s = some (r, rest)) (hE : RespE s w e w') :
    ∃ v, e = .returned (.tuple #[.agg #[.int .i64 r.err, .int .i64 r.at_, v], .string ⟨rest.toArray⟩, .int .i64 0]) ∧ w'.ownsRow w.heap.size 78 3 v r.toks.length (tokCells r.toks) := by
  rcases spP_read s with ⟨r', rest', h1, h2, h3, h4, h5, h6⟩ | ⟨h1, _⟩
  · rw [h] at h1
    injection h1 with h1
    injection h1 with e1 e2
    subst e1 e2
    unfold RespE at hE
    rw [if_neg (by rw [h6]; simp), h2, h3, h4, h5] at hE
    exact hE
  · rw [h] at h1; cases h1
theorem RespE_none {s : List UInt8} {w w' : World} {e : Ending} (h : readR s = none) (hE : RespE s w e w') : e = .returned (.tuple #[.agg #[.int .i64 0, .int .i64 0, .slice none 0 0], .string { data := #[] }, .int .i64 10]) := by
  rcases spP_read s with ⟨r', rest', h1, _⟩ | ⟨_, h2⟩
  · rw [h] at h1; cases h1
  · unfold RespE at hE
    rw [if_pos h2] at hE
    exact hE
def wfI (n : Int) : Prop := -9223372036854775808 ≤ n ∧ n ≤ 9223372036854775807
theorem tokW_true (t : Int × Int × Int) (l : List UInt8) : (tokW t l true).2 = true := by
  unfold tokW
  simp only [Bool.true_or, numW_true]
theorem tokW_in {t : Int × Int × Int} {l : List UInt8} (h : okT t) : tokW t l false = (l ++ encT t, false) := by
  obtain ⟨h1, h2, h3, h4, h5⟩ := h
  unfold inN at h3 h4
  unfold most at h3 h4
  have e1 : (false || (decide (255 < t.1) || (decide ((most : Int) < t.2.2) || decide (t.2.1 < 0)))) = false := by
    rw [decide_eq_false (by omega), decide_eq_false (by unfold most; omega), decide_eq_false (by omega)]; rfl
  have e2 : IntKind.i64.wrap (t.2.2 - t.2.1) = t.2.2 - t.2.1 := IntWalk.i64_in _ (by omega)
  unfold tokW
  rw [e1, e2]
  simp only
  rw [numW_in (show inN t.1 from by unfold inN most; omega)]
  simp only
  rw [numW_in (show inN t.2.1 from by unfold inN most; omega)]
  simp only
  rw [numW_in (show inN (t.2.2 - t.2.1) from by unfold inN most; omega)]
  simp [encT, encNs]
theorem tokW_flag {t : Int × Int × Int} {l : List UInt8} {bd : Bool} (h : (bd || (decide (255 < t.1) || (decide ((most : Int) < t.2.2) || decide (t.2.1 < 0)))) = true) : (tokW t l bd).2 = true := by
  unfold tokW
  rw [h]
  simp only [numW_true]
theorem tokW_num {t : Int × Int × Int} {l : List UInt8} {bd : Bool} (h : ¬ inN t.1 ∨ ¬ inN t.2.1 ∨ ¬ inN (IntKind.i64.wrap (t.2.2 - t.2.1))) : (tokW t l bd).2 = true := by
  unfold tokW
  simp only
  rcases h with h | h | h
  · rw [numW_out h, numW_true, numW_true]
  · rw [numW_out h, numW_true]
  · exact numW_out h
theorem tokW_out {t : Int × Int × Int} {l : List UInt8} {bd : Bool} (hw : wfI t.2.2) (h : ¬ okT t) : (tokW t l bd).2 = true := by
  by_cases f : (bd || (decide (255 < t.1) || (decide ((most : Int) < t.2.2) || decide (t.2.1 < 0)))) = true
  · exact tokW_flag f
  · rw [Bool.not_eq_true] at f
    simp only [Bool.or_eq_false_iff, decide_eq_false_iff_not] at f
    obtain ⟨_, f1, f2, f3⟩ := f
    refine tokW_num ?_
    by_cases g1 : inN t.1
    · by_cases g2 : inN t.2.1
      · refine .inr (.inr fun g3 => h ?_)
        unfold inN most at g1 g2 g3
        unfold most at f2
        unfold wfI at hw
        rw [IntKind.wrap_i64] at g3
        refine ⟨by omega, by omega, ?_, ?_, by omega⟩ <;> (unfold inN most; omega)
      · exact .inr (.inl g2)
    · exact .inl g1
theorem toksW_true : ∀ (ts : List (Int × Int × Int)) (l : List UInt8), (toksW ts l true).2 = true
  | [], _ => rfl
  | t :: ts, l => by
    show (toksW ts (tokW t l true).1 (tokW t l true).2).2 = true
    rw [tokW_true]; exact toksW_true ts _
theorem toksW_in : ∀ (ts : List (Int × Int × Int)) (l : List UInt8), (∀ t ∈ ts, okT t) → toksW ts l false = (l ++ encTs ts, false)
  | [], l, _ => by simp [toksW, encTs]
  | t :: ts, l, h => by
    show toksW ts (tokW t l false).1 (tokW t l false).2 = _
    rw [tokW_in (h t (by simp))]
    simp only
    rw [toksW_in ts _ (fun m hm => h m (by simp [hm]))]
    simp [encTs]
theorem toksW_out : ∀ (ts : List (Int × Int × Int)) (l : List UInt8) (bd : Bool), (∀ t ∈ ts, wfI t.2.2) → (∃ t ∈ ts, ¬ okT t) → (toksW ts l bd).2 = true
  | [], _, _, _, ⟨t, h, _⟩ => by cases h
  | t :: ts, l, bd, hw, ⟨u, hu, hn⟩ => by
    show (toksW ts (tokW t l bd).1 (tokW t l bd).2).2 = true
    by_cases ht : okT t
    · rcases List.mem_cons.1 hu with rfl | hu
      · exact absurd ht hn
      · exact toksW_out ts _ _ (fun m hm => hw m (by simp [hm])) ⟨u, hu, hn⟩
    · rw [tokW_out (hw t (by simp)) ht]; exact toksW_true ts _
theorem badR_no (r : Rp) : badR r = false ↔ (0 ≤ r.err ∧ r.err ≤ 13 ∧ r.toks.length ≤ 4000) := by
  unfold badR
  simp only [Bool.or_eq_false_iff, decide_eq_false_iff_not]
  omega
theorem printRE_ok {r : Rp} (h : okR r) : printRE r = .returned (.tuple #[.string ⟨(encR r).toArray⟩, .int .i64 0]) := by
  obtain ⟨h1, h2, h3, h4, h5⟩ := h
  have hb := (badR_no r).2 ⟨h1, h2, h4⟩
  have hn : numsR r = (encR r, false) := by
    unfold numsR
    simp only
    rw [numW_in h3]
    simp only
    rw [numW_in (show inN (r.toks.length : Nat) from by unfold inN most; omega)]
    simp only
    rw [toksW_in _ _ h5]
    simp [encR, encNs]
  unfold printRE
  rw [if_neg (by rw [hb]; simp), hn]
  rfl
theorem printRE_no {r : Rp} (hw : ∀ t ∈ r.toks, wfI t.2.2) (h : ¬ okR r) : printRE r = .returned (.tuple #[.string { data := #[] }, .int .i64 1]) := by
  unfold printRE
  cases hb : badR r with
  | true => rw [if_pos rfl]; rfl
  | false =>
    obtain ⟨h1, h2, h4⟩ := (badR_no r).1 hb
    have hn : (numsR r).2 = true := by
      unfold numsR
      simp only
      by_cases h3 : inN r.at_
      · by_cases h5 : ∀ t ∈ r.toks, okT t
        · exact absurd ⟨h1, h2, h3, h4, h5⟩ h
        · refine toksW_out _ _ _ hw ?_
          rcases Classical.not_forall.1 h5 with ⟨t, ht⟩
          rcases Classical.not_forall.1 ht with ⟨a, b⟩
          exact ⟨t, a, b⟩
      · rw [numW_out h3, numW_true]; exact toksW_true _ _
    rw [if_neg (by simp)]
    unfold doneE
    rw [if_pos hn]; rfl
end Go.Proofs.Ytgcjfjmnccajeaa
