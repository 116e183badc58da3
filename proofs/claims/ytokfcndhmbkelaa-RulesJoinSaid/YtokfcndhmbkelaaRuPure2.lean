/- What was joined is split again. -/
import Derived.Test.YtokfcndhmbkelaaRuPure
namespace Go.Proofs.Ytokfcndhmbkelaa
open Go.RowKit
def keyL (L : List Ln) : List (List UInt8 × List UInt8) := L.map fun x => (x.name, x.text)
theorem hasName_key {a b : List Ln} (h : keyL a = keyL b) (n : List UInt8) : hasName a n = hasName b n := by
  have e : ∀ l : List Ln, hasName l n = (keyL l).any (fun p => p.1 == n) := fun l => by unfold hasName keyL; rw [List.any_map]; rfl
  rw [e, e, h]
theorem okTo_all {L : List Ln} : ∀ {k : Nat}, okTo L k = true → ∀ i (h : i < L.length), i < k → okLn (L.take i) L[i] = true
  | 0, _, i, _, h => by omega
  | k + 1, ho, i, hi, h => by
    unfold okTo at ho
    rw [Bool.and_eq_true] at ho
    by_cases e : i = k
    · subst e
      have := ho.2
      rw [List.getElem?_eq_getElem hi] at this
      exact this
    · exact okTo_all ho.1 i hi (by omega)
theorem lineB_nl : ∀ (u v : List UInt8), lineB u = u → lineB (u ++ 10 :: v) = u
  | [], _, _ => rfl
  | c :: r, v, h => by
    by_cases hc : c = 10
    · subst hc
      unfold lineB at h
      rw [List.takeWhile_cons] at h
      simp at h
    · have hc2 : (c != 10) = true := by rw [bne_iff_ne]; exact hc
      have ih := lineB_nl r v
      unfold lineB at *
      rw [List.takeWhile_cons, hc2, if_pos rfl] at h
      rw [List.cons_append, List.takeWhile_cons, hc2, if_pos rfl, ih (by injection h)]
theorem runF_join {L : List Ln} (h8 : L.length ≤ 8) (hok : ∀ i (h : i < L.length), okLn (L.take i) L[i] = true) : ∀ (n k : Nat) (acc : List Ln) (a f : Nat), L.length - k = n → k ≤ L.length → keyL acc = keyL (L.take k) → (joinT (L.drop k)).length < f →
    ∃ res, runF f (joinT (L.drop k)) a acc = .ok res ∧ keyL res = keyL L
  | 0, k, acc, a, f, hn, hk, hkey, hf => by
    have e : k = L.length := by omega
    subst e
    rw [List.drop_length]
    obtain ⟨f', rfl⟩ : ∃ f', f = f' + 1 := ⟨f - 1, by omega⟩
    exact ⟨acc, by rw [runF.eq_2]; rfl, by rw [hkey, List.take_length]⟩
  | n + 1, k, acc, a, f, hn, hk, hkey, hf => by
    have hlt : k < L.length := by omega
    obtain ⟨f', rfl⟩ : ∃ f', f = f' + 1 := ⟨f - 1, by omega⟩
    have hj : joinT (L.drop k) = (L[k].name ++ 58 :: L[k].text) ++ 10 :: joinT (L.drop (k + 1)) := by
      rw [List.drop_eq_getElem_cons hlt]
      unfold joinT lnText
      rw [List.flatMap_cons]; simp
    have ho := hok k hlt
    unfold okLn at ho
    rw [Bool.and_eq_true, Bool.and_eq_true, Bool.not_eq_true', Bool.not_eq_true'] at ho
    obtain ⟨o1, o2, o3⟩ := ho
    obtain ⟨r1, r2, r3, r4, r5⟩ := rule_line o1 o3
    have hline := lineB_nl _ (joinT (L.drop (k + 1))) r1
    rw [hj] at hf ⊢
    have hkl : acc.length = k := by
      have := congrArg List.length hkey
      unfold keyL at this
      rw [List.length_map, List.length_map, List.length_take] at this; omega
    have hdrop : ((L[k].name ++ 58 :: L[k].text) ++ 10 :: joinT (L.drop (k + 1))).drop ((L[k].name ++ 58 :: L[k].text).length + 1) = joinT (L.drop (k + 1)) := by
      rw [← List.drop_drop, List.drop_left]; rfl
    rw [runF.eq_2, hline, if_neg (by rw [r3]; simp), if_neg (by rw [r4]; simp), if_neg (fun h => by
      rcases h with h | h
      · omega
      · rw [lnOf_rule a r2] at h
        rw [hasName_key hkey, o2] at h
        cases h), if_neg (by simp), hdrop]
    refine runF_join h8 hok n (k + 1) _ _ f' (by omega) hlt ?_ ?_
    · rw [lnOf_rule a r2, List.take_succ_eq_append_getElem hlt]
      unfold keyL at *
      rw [List.map_append, List.map_append, hkey]; rfl
    · rw [List.length_append, List.length_cons] at hf; omega
theorem split_join {L : List Ln} {t : List UInt8} (h : joinB L = some t) : ∃ ls, splitB t = .ok ls ∧ keyL ls = keyL L := by
  unfold joinB at h
  by_cases hc : okTo L L.length = true ∧ 1 ≤ L.length ∧ L.length ≤ 8 ∧ (joinT L).length ≤ 1000
  · rw [if_pos hc] at h
    injection h with h
    subst h
    obtain ⟨c1, c2, c3, c4⟩ := hc
    obtain ⟨res, hr, hkr⟩ := runF_join c3 (fun i hi => okTo_all c1 i hi hi) L.length 0 [] 0 ((joinT L).length + 1) (by omega) (Nat.zero_le _) rfl (by rw [List.drop_zero]; omega)
    rw [List.drop_zero] at hr
    refine ⟨res, ?_, hkr⟩
    have hl : res.length = L.length := by
      have := congrArg List.length hkr
      unfold keyL at this
      rwa [List.length_map, List.length_map] at this
    rw [splitB_ok (by omega) hr, if_neg (by omega)]
  · rw [if_neg hc] at h; cases h
theorem few_true {L : List Ln} (h : fewB L = true) : L.length ≤ 30 ∧ ∀ x ∈ L, x.name.length + x.text.length ≤ 2000 := by
  unfold fewB at h
  rw [Bool.and_eq_true] at h
  exact ⟨by simpa using h.2, fun x hx => by have := (List.all_eq_true.1 h.1) x hx; simpa using this⟩
theorem joinB_len {L : List Ln} {t : List UInt8} (h : joinB L = some t) : t.length ≤ 1000 := by
  unfold joinB at h
  by_cases hc : okTo L L.length = true ∧ 1 ≤ L.length ∧ L.length ≤ 8 ∧ (joinT L).length ≤ 1000
  · rw [if_pos hc] at h; injection h with h; rw [← h]; exact hc.2.2.2
  · rw [if_neg hc] at h; cases h
end Go.Proofs.Ytokfcndhmbkelaa
