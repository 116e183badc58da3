/- The wire's numbers: the reader's flag and the plain reading. -/
import Derived.Test.YtgcjfjmnccajeaaWire3
namespace Go.Proofs.Ytgcjfjmnccajeaa
open Go.RowKit
theorem one_true (rest : List UInt8) : (oneB rest true).2.2 = true := by cases rest <;> rfl
theorem rdP_true (limit : Nat) : ∀ (f i acc : Nat) (rest : List UInt8), (rdP limit f i acc rest true).2.2 = true
  | 0, _, _, _ => rfl
  | f + 1, i, acc, rest => by
    unfold rdP
    by_cases h1 : (oneB rest true).1 < 128
    · rw [if_pos h1]
      show ((oneB rest true).2.2 || _) = true
      rw [one_true]; rfl
    · rw [if_neg h1, one_true]; exact rdP_true limit f _ _ _
theorem rdP_some (limit : Nat) : ∀ (f i acc : Nat) (s : List UInt8) (n : Nat) (r : List UInt8), rdF f i acc s = some (n, r) → n ≤ limit → rdP limit f i acc s false = (n, r, false)
  | 0, _, _, _, _, _, h, _ => by cases h
  | f + 1, _, _, [], _, _, h, _ => by cases h
  | f + 1, i, acc, c :: s, n, r, h, hn => by
    unfold rdF at h
    unfold rdP
    by_cases h1 : c.toNat < 128
    · have e : (oneB (c :: s) false).1 < 128 := h1
      rw [if_pos h1] at h
      rw [if_pos e]
      by_cases h2 : 0 < i ∧ c.toNat = 0
      · rw [if_pos h2] at h; cases h
      · rw [if_neg h2] at h
        injection h with h
        injection h with e1 e2
        subst e2
        show (acc + c.toNat % 128 * 2 ^ (7 * i), s, (false || (decide (limit < acc + c.toNat % 128 * 2 ^ (7 * i)) || (decide (0 < i) && decide (c.toNat = 0))))) = _
        rw [e1]
        have e3 : decide (limit < n) = false := by simp; omega
        have e4 : (decide (0 < i) && decide (c.toNat = 0)) = false := by
          rw [Bool.eq_false_iff]; intro h; rw [Bool.and_eq_true] at h; exact h2 ⟨by simpa using h.1, by simpa using h.2⟩
        rw [e3, e4]; rfl
    · have e : ¬ (oneB (c :: s) false).1 < 128 := h1
      rw [if_neg h1] at h
      rw [if_neg e]
      exact rdP_some limit f _ _ s n r h hn
theorem rdP_none (limit : Nat) : ∀ (f i acc : Nat) (s : List UInt8), (∀ n r, rdF f i acc s = some (n, r) → limit < n) → (rdP limit f i acc s false).2.2 = true
  | 0, _, _, _, _ => rfl
  | f + 1, i, acc, [], _ => by
    unfold rdP
    have e : (oneB [] false).1 < 128 := by decide
    rw [if_pos e]; rfl
  | f + 1, i, acc, c :: s, h => by
    unfold rdP
    by_cases h1 : c.toNat < 128
    · have e : (oneB (c :: s) false).1 < 128 := h1
      rw [if_pos e]
      show (false || (decide (limit < acc + c.toNat % 128 * 2 ^ (7 * i)) || (decide (0 < i) && decide (c.toNat = 0)))) = true
      by_cases h2 : 0 < i ∧ c.toNat = 0
      · simp [h2.1, h2.2]
      · have := h (acc + c.toNat % 128 * 2 ^ (7 * i)) s (by unfold rdF; rw [if_pos h1, if_neg h2])
        simp [this]
    · have e : ¬ (oneB (c :: s) false).1 < 128 := h1
      rw [if_neg e]
      exact rdP_none limit f _ _ s (fun n r hh => h n r (by unfold rdF; rw [if_neg h1]; exact hh))
/-- The reader's number is the plain one, or the reader is bad. -/
theorem rdP_read (limit : Nat) (s : List UInt8) : (∃ n r, readN limit s = some (n, r) ∧ rdP limit 7 0 0 s false = (n, r, false)) ∨ (readN limit s = none ∧ (rdP limit 7 0 0 s false).2.2 = true) := by
  unfold readN
  cases h : rdF 7 0 0 s with
  | none => exact .inr ⟨rfl, rdP_none limit 7 0 0 s (fun n r e => by rw [h] at e; cases e)⟩
  | some p =>
    obtain ⟨n, r⟩ := p
    by_cases hn : n ≤ limit
    · exact .inl ⟨n, r, by simp [hn], rdP_some limit 7 0 0 s n r h hn⟩
    · exact .inr ⟨by simp [hn], rdP_none limit 7 0 0 s (fun n' r' e => by rw [h] at e; injection e with e; injection e with e _; omega)⟩
end Go.Proofs.Ytgcjfjmnccajeaa
