/- Files with the same beginning, and files behind a remark. -/
import Derived.Test.YtokfcndhmbkelaaNames06
namespace Go.Proofs.Ytokfcndhmbkelaa
open Go.RowKit
theorem lineB_pre : ∀ (u v : List UInt8), 10 ∈ u → lineB (u ++ v) = lineB u ∧ (lineB u).length < u.length
  | [], _, h => by cases h
  | c :: r, v, h => by
    by_cases hc : c = 10
    · subst hc
      exact ⟨rfl, by show 0 < _; simp⟩
    · have h2 : 10 ∈ r := by
        rcases List.mem_cons.1 h with e | e
        · exact absurd e.symm hc
        · exact e
      obtain ⟨h3, h4⟩ := lineB_pre r v h2
      have hc2 : (c != 10) = true := by rw [bne_iff_ne]; exact hc
      unfold lineB at *
      rw [List.cons_append, List.takeWhile_cons, List.takeWhile_cons, hc2, if_pos rfl, if_pos rfl, h3]
      exact ⟨rfl, by simp; omega⟩
theorem lineB_next : ∀ (l : List UInt8), (lineB l).length < l.length → l[(lineB l).length]? = some 10
  | [], h => by cases h
  | c :: r, h => by
    by_cases hc : c = 10
    · subst hc; rfl
    · have hc2 : (c != 10) = true := by rw [bne_iff_ne]; exact hc
      have ih := lineB_next r
      unfold lineB at *
      rw [List.takeWhile_cons, hc2, if_pos rfl] at h ⊢
      rw [List.length_cons, List.getElem?_cons_succ]
      exact ih (by simpa using h)
theorem runF_ge : ∀ (f : Nat) (l : List UInt8) (a : Nat) (acc : List Ln) (k : Nat), runF f l a acc = .error k → a ≤ k
  | 0, l, a, acc, k, h => by unfold runF at h; cases h
  | f + 1, l, a, acc, k, h => by
    unfold runF at h
    by_cases h1 : skipB (lineB l) = true
    · rw [if_pos h1] at h
      by_cases h2 : (lineB l).length = l.length
      · rw [if_pos h2] at h; cases h
      · rw [if_neg h2] at h
        have := runF_ge f _ _ _ k h; omega
    · rw [if_neg h1] at h
      by_cases h2 : badB (lineB l) = true
      · rw [if_pos h2] at h; injection h with h; omega
      · rw [if_neg h2] at h
        by_cases h3 : acc.length = 8 ∨ hasName acc (lnOf (lineB l) a).name = true
        · rw [if_pos h3] at h; injection h with h; omega
        · rw [if_neg h3] at h
          by_cases h4 : (lineB l).length = l.length
          · rw [if_pos h4] at h; cases h
          · rw [if_neg h4] at h
            have := runF_ge f _ _ _ k h; omega
theorem runF_fuel : ∀ (f f' : Nat) (l : List UInt8) (a : Nat) (acc : List Ln), l.length < f → l.length < f' → runF f l a acc = runF f' l a acc
  | 0, _, _, _, _, h, _ => by omega
  | _ + 1, 0, _, _, _, _, h => by omega
  | f + 1, f' + 1, l, a, acc, h, h' => by
    have hle := lineB_le l
    have hdl : (l.drop ((lineB l).length + 1)).length = l.length - ((lineB l).length + 1) := List.length_drop ..
    have ih := fun a acc (hne : (lineB l).length ≠ l.length) => runF_fuel f f' (l.drop ((lineB l).length + 1)) a acc (by omega) (by omega)
    rw [runF.eq_2, runF.eq_2]
    by_cases h4 : (lineB l).length = l.length
    · simp only [if_pos h4]
    · simp only [if_neg h4, ih _ _ h4]
/-- A file that is wrong at a place is so with more behind the line. -/
theorem runF_first (q t t' : List UInt8) : ∀ (f f' : Nat) (a : Nat) (acc : List Ln) (k : Nat), a ≤ q.length → k ≤ q.length → (q ++ 10 :: t).length - a < f → (q ++ 10 :: t').length - a < f' →
    runF f ((q ++ 10 :: t).drop a) a acc = .error k → runF f' ((q ++ 10 :: t').drop a) a acc = .error k
  | 0, _, _, _, _, _, _, h, _, _ => by omega
  | _ + 1, 0, _, _, _, _, _, _, h, _ => by omega
  | f + 1, f' + 1, a, acc, k, ha, hk, hf, hf', h => by
    have e1 : ∀ t, (q ++ 10 :: t).drop a = (q.drop a ++ [10]) ++ t := fun t => by
      rw [List.drop_append_of_le_length ha, List.append_assoc]; rfl
    have hmem : (10 : UInt8) ∈ q.drop a ++ [10] := by simp
    have hL := fun t => lineB_pre (q.drop a ++ [10]) t hmem
    have hl : lineB ((q ++ 10 :: t').drop a) = lineB ((q ++ 10 :: t).drop a) := by rw [e1, e1, (hL t).1, (hL t').1]
    have hn1 : (lineB ((q ++ 10 :: t).drop a)).length < ((q ++ 10 :: t).drop a).length := by
      rw [e1, (hL t).1, List.length_append]; have := (hL t).2; omega
    have hn2 : (lineB ((q ++ 10 :: t).drop a)).length < ((q ++ 10 :: t').drop a).length := by
      rw [e1, e1, (hL t).1, List.length_append]; have := (hL t).2; omega
    have hd1 : ((q ++ 10 :: t).drop a).length = (q ++ 10 :: t).length - a := List.length_drop ..
    have hd2 : ((q ++ 10 :: t').drop a).length = (q ++ 10 :: t').length - a := List.length_drop ..
    rw [runF.eq_2] at h ⊢
    rw [hl]
    generalize lineB ((q ++ 10 :: t).drop a) = line at *
    rw [if_neg (Nat.ne_of_lt hn1), if_neg (Nat.ne_of_lt hn1), List.drop_drop] at h
    rw [if_neg (Nat.ne_of_lt hn2), if_neg (Nat.ne_of_lt hn2), List.drop_drop]
    have hgo := fun acc (h : runF f ((q ++ 10 :: t).drop (a + (line.length + 1))) (a + line.length + 1) acc = .error k) =>
      have hge := runF_ge f _ _ _ k h
      runF_first q t t' f f' (a + line.length + 1) acc k (by omega) hk (by omega) (by omega) h
    by_cases h1 : skipB line = true
    · rw [if_pos h1] at h ⊢
      exact hgo acc h
    · rw [if_neg h1] at h ⊢
      by_cases h2 : badB line = true
      · rw [if_pos h2] at h ⊢; exact h
      · rw [if_neg h2] at h ⊢
        by_cases h3 : acc.length = 8 ∨ hasName acc (lnOf line a).name = true
        · rw [if_pos h3] at h ⊢; exact h
        · rw [if_neg h3] at h ⊢
          exact hgo _ h
theorem split_first {s more : List UInt8} {k : Nat} (h : splitB s = .error k) (hk : k < s.length) (he : endN s k < s.length) (hl : s.length + more.length ≤ 1000) : splitB (s.take (endN s k + 1) ++ more) = .error k := by
  have hb : ¬ 1000 < s.length := by omega
  have hr : runF (s.length + 1) s 0 [] = .error k := by
    cases hr : runF (s.length + 1) s 0 [] with
    | error j => rw [splitB_err hb hr] at h; exact h
    | ok acc =>
      rw [splitB_ok hb hr] at h
      by_cases h0 : acc.length = 0
      · rw [if_pos h0] at h; injection h with h; omega
      · rw [if_neg h0] at h; cases h
  have hge : k ≤ endN s k := (endN_le (Nat.le_of_lt hk)).1
  have hnl : s[endN s k]? = some 10 := by
    have hdl : (s.drop k).length = s.length - k := List.length_drop ..
    have := lineB_next (s.drop k) (by unfold endN at he; omega)
    rw [List.getElem?_drop] at this
    exact this
  generalize endN s k = E at *
  have e1 : s = s.take E ++ 10 :: s.drop (E + 1) := by
    have hg : s[E] = 10 := by rw [List.getElem?_eq_getElem he] at hnl; injection hnl
    rw [← hg, ← List.drop_eq_getElem_cons he, List.take_append_drop]
  have e2 : s.take (E + 1) ++ more = s.take E ++ 10 :: more := by
    have hg : s[E] = 10 := by rw [List.getElem?_eq_getElem he] at hnl; injection hnl
    rw [List.take_succ_eq_append_getElem he, hg, List.append_assoc]; rfl
  have hql : (s.take E).length = E := by rw [List.length_take]; omega
  rw [e2]
  have hx : (s.take E ++ 10 :: more).length ≤ 1000 := by rw [List.length_append, hql, List.length_cons]; omega
  refine splitB_err (by omega) ?_
  have := runF_first (s.take E) (s.drop (E + 1)) more (s.length + 1) ((s.take E ++ 10 :: more).length + 1) 0 [] k (Nat.zero_le _) (by omega) (by rw [← e1]; omega) (by omega)
  rw [← e1] at this
  exact this hr
/-- A rule that stands further behind. -/
def shLn (d : Nat) (x : Ln) : Ln := ⟨x.name, x.text, x.at_ + d⟩
def shRes (d : Nat) : Except Nat (List Ln) → Except Nat (List Ln)
  | .error k => .error (k + d)
  | .ok ls => .ok (ls.map (shLn d))
theorem hasName_sh (d : Nat) (acc : List Ln) (n : List UInt8) : hasName (acc.map (shLn d)) n = hasName acc n := by
  unfold hasName
  rw [List.any_map]; rfl
theorem lnOf_sh (line : List UInt8) (a d : Nat) : lnOf line (a + d) = shLn d (lnOf line a) := by
  show (⟨_, _, ((a + d + headN 12 line + 1 : Nat) : Int)⟩ : Ln) = ⟨_, _, ((a + headN 12 line + 1 : Nat) : Int) + (d : Int)⟩
  congr 1
  omega
theorem runF_sh (d : Nat) : ∀ (f : Nat) (l : List UInt8) (a : Nat) (acc : List Ln), runF f l (a + d) (acc.map (shLn d)) = shRes d (runF f l a acc)
  | 0, l, a, acc => rfl
  | f + 1, l, a, acc => by
    have ih := fun a' acc => runF_sh d f (l.drop ((lineB l).length + 1)) a' acc
    rw [runF.eq_2, runF.eq_2]
    by_cases h1 : skipB (lineB l) = true
    · rw [if_pos h1, if_pos h1]
      by_cases h2 : (lineB l).length = l.length
      · rw [if_pos h2, if_pos h2]; rfl
      · rw [if_neg h2, if_neg h2, ← ih, show a + d + (lineB l).length + 1 = a + (lineB l).length + 1 + d from by omega]
    · rw [if_neg h1, if_neg h1]
      by_cases h2 : badB (lineB l) = true
      · rw [if_pos h2, if_pos h2]; show Except.error _ = Except.error _; congr 1; omega
      · rw [if_neg h2, if_neg h2, List.length_map, hasName_sh, lnOf_sh]
        have e : (shLn d (lnOf (lineB l) a)).name = (lnOf (lineB l) a).name := rfl
        rw [e]
        by_cases h3 : acc.length = 8 ∨ hasName acc (lnOf (lineB l) a).name = true
        · rw [if_pos h3, if_pos h3]; rfl
        · rw [if_neg h3, if_neg h3]
          have em : acc.map (shLn d) ++ [shLn d (lnOf (lineB l) a)] = (acc ++ [lnOf (lineB l) a]).map (shLn d) := by simp
          rw [em]
          by_cases h4 : (lineB l).length = l.length
          · rw [if_pos h4, if_pos h4]; rfl
          · rw [if_neg h4, if_neg h4, ← ih, show a + d + (lineB l).length + 1 = a + (lineB l).length + 1 + d from by omega]
theorem split_remark {s r : List UInt8} (hr : ∀ c ∈ r, c ≠ 10) (hl : s.length + r.length ≤ 900) : splitB ([35] ++ r ++ [10, 10] ++ s) = shRes (r.length + 3) (splitB s) := by
  have e : [35] ++ r ++ [10, 10] ++ s = (35 :: r ++ [10]) ++ (10 :: s) := by simp
  have hlen : ([35] ++ r ++ [10, 10] ++ s).length = s.length + (r.length + 3) := by simp; omega
  have hb1 : ¬ 1000 < s.length := by omega
  have hb2 : ¬ 1000 < ([35] ++ r ++ [10, 10] ++ s).length := by omega
  have hline : lineB ([35] ++ r ++ [10, 10] ++ s) = 35 :: r := by
    rw [e, (lineB_pre (35 :: r ++ [10]) (10 :: s) (by simp)).1]
    have : ∀ u : List UInt8, (∀ c ∈ u, c ≠ 10) → lineB (u ++ [10]) = u := by
      intro u
      induction u with
      | nil => intro _; rfl
      | cons c t ih =>
        intro h
        have hc : (c != 10) = true := by rw [bne_iff_ne]; exact h c List.mem_cons_self
        have ih := ih (fun x hx => h x (List.mem_cons_of_mem _ hx))
        rw [List.cons_append]
        unfold lineB at *
        rw [List.takeWhile_cons, hc, if_pos rfl, ih]
    exact this _ (fun c hc => by
      rcases List.mem_cons.1 hc with e | e
      · rw [e]; decide
      · exact hr c e)
  have hd1 : ([35] ++ r ++ [10, 10] ++ s).drop (r.length + 2) = 10 :: s := by
    rw [e, List.drop_left' (by simp)]
  have hrun : runF (([35] ++ r ++ [10, 10] ++ s).length + 1) ([35] ++ r ++ [10, 10] ++ s) 0 [] = shRes (r.length + 3) (runF (s.length + 1) s 0 []) := by
    rw [hlen, show s.length + (r.length + 3) + 1 = (s.length + r.length + 2) + 1 + 1 from by omega, runF.eq_2, hline, if_pos (by rfl), if_neg (by rw [hlen]; simp; omega)]
    rw [show (35 :: r).length + 1 = r.length + 2 from by simp, hd1, runF.eq_2, show lineB (10 :: s) = [] from rfl, if_pos (by rfl), if_neg (by simp)]
    rw [show (10 :: s).drop (([] : List UInt8).length + 1) = s from rfl, ← runF_sh]
    rw [runF_fuel (s.length + r.length + 2) (s.length + 1) s _ _ (by omega) (by omega)]
    congr 1
  cases hr0 : runF (s.length + 1) s 0 [] with
  | error k =>
    rw [hr0] at hrun
    rw [splitB_err hb1 hr0, splitB_err hb2 hrun]; rfl
  | ok acc =>
    rw [hr0] at hrun
    rw [splitB_ok hb1 hr0, splitB_ok hb2 hrun, List.length_map]
    by_cases h0 : acc.length = 0
    · rw [if_pos h0, if_pos h0, hlen]; rfl
    · rw [if_neg h0, if_neg h0]; rfl
end Go.Proofs.Ytokfcndhmbkelaa
