/- The wire's numbers, requests and responses, with no program in sight. -/
import Derived.Test.YtgcjfjmnccajeaaKit
namespace Go.Proofs.Ytgcjfjmnccajeaa
open Go.RowKit
/-- A number's bytes: no more than f + 1. -/
def encF : Nat → Nat → List UInt8
  | 0, n => [n.toUInt8]
  | f + 1, n => if n < 128 then [n.toUInt8] else (n % 128 + 128).toUInt8 :: encF f (n / 128)
def encN (n : Nat) : List UInt8 := encF 10 n
def most : Nat := 1099511627776
/-- The number that bytes begin with, and what stands behind. -/
def rdF : Nat → Nat → Nat → List UInt8 → Option (Nat × List UInt8)
  | 0, _, _, _ => none
  | _ + 1, _, _, [] => none
  | f + 1, i, acc, c :: r =>
    if c.toNat < 128 then (if 0 < i ∧ c.toNat = 0 then none else some (acc + c.toNat % 128 * 2 ^ (7 * i), r))
    else rdF f (i + 1) (acc + c.toNat % 128 * 2 ^ (7 * i)) r
def readN (limit : Nat) (s : List UInt8) : Option (Nat × List UInt8) :=
  match rdF 7 0 0 s with
  | none => none
  | some (n, r) => if n ≤ limit then some (n, r) else none
theorem u8_toNat {n : Nat} (h : n < 256) : n.toUInt8.toNat = n := by
  simp [Nat.toUInt8]; omega
theorem encF_fuel : ∀ (f g n : Nat), n < 128 * 128 ^ f → n < 128 * 128 ^ g → encF f n = encF g n
  | 0, 0, n, _, _ => rfl
  | 0, g + 1, n, h, _ => by
    show [n.toUInt8] = if n < 128 then _ else _
    rw [if_pos (by simpa using h)]
  | f + 1, 0, n, _, h => by
    show (if n < 128 then _ else _) = [n.toUInt8]
    rw [if_pos (by simpa using h)]
  | f + 1, g + 1, n, h, h2 => by
    show (if n < 128 then _ else _) = if n < 128 then _ else _
    by_cases hn : n < 128
    · rw [if_pos hn, if_pos hn]
    · rw [if_neg hn, if_neg hn, encF_fuel f g (n / 128) (by rw [Nat.pow_succ] at h; omega) (by rw [Nat.pow_succ] at h2; omega)]
/-- What is printed is read, whatever stands behind. -/
theorem rdF_enc : ∀ (f i n acc g : Nat) (t : List UInt8), n < 128 * 128 ^ f → f < g → (0 < i → 0 < n) → rdF g i acc (encF f n ++ t) = some (acc + n * 2 ^ (7 * i), t)
  | 0, i, n, acc, g, t, h, hg, h0 => by
    obtain ⟨g', rfl⟩ : ∃ g', g = g' + 1 := ⟨g - 1, by omega⟩
    have hn : n < 128 := by simpa using h
    show (if n.toUInt8.toNat < 128 then _ else _) = _
    rw [u8_toNat (by omega), if_pos hn, if_neg (fun hh => by have := h0 hh.1; omega), Nat.mod_eq_of_lt hn]
    rfl
  | f + 1, i, n, acc, g, t, h, hg, h0 => by
    obtain ⟨g', rfl⟩ : ∃ g', g = g' + 1 := ⟨g - 1, by omega⟩
    unfold encF
    by_cases hn : n < 128
    · rw [if_pos hn]
      show (if n.toUInt8.toNat < 128 then _ else _) = _
      rw [u8_toNat (by omega), if_pos hn, if_neg (fun hh => by have := h0 hh.1; omega), Nat.mod_eq_of_lt hn]
      rfl
    · rw [if_neg hn]
      show (if (n % 128 + 128).toUInt8.toNat < 128 then _ else rdF g' (i + 1) _ (encF f (n / 128) ++ t)) = _
      rw [u8_toNat (by omega), if_neg (by omega), rdF_enc f (i + 1) (n / 128) _ g' t (by rw [Nat.pow_succ] at h; omega) (by omega) (by omega)]
      congr 2
      have e1 : (n % 128 + 128) % 128 = n % 128 := by omega
      have e2 : 2 ^ (7 * (i + 1)) = 128 * 2 ^ (7 * i) := by rw [Nat.mul_add, Nat.pow_add, Nat.mul_comm]
      rw [e1, e2, Nat.add_assoc]
      congr 1
      have e3 : n / 128 * (128 * 2 ^ (7 * i)) = (n / 128 * 128) * 2 ^ (7 * i) := by rw [Nat.mul_assoc]
      rw [e3, ← Nat.add_mul]
      congr 1
      omega
theorem encN_le {n : Nat} (h : n ≤ most) : encN n = encF 6 n := encF_fuel 10 6 n (by unfold most at h; omega) (by unfold most at h; omega)
theorem readN_enc {n limit : Nat} (t : List UInt8) (h : n ≤ most) (hl : n ≤ limit) : readN limit (encN n ++ t) = some (n, t) := by
  unfold readN
  rw [encN_le h, rdF_enc 6 0 n 0 7 t (by unfold most at h; omega) (by omega) (by omega)]
  simp [hl]
/-- What is read was printed. -/
theorem rdF_take : ∀ (f i acc : Nat) (s : List UInt8) (n : Nat) (r : List UInt8), rdF f i acc s = some (n, r) → ∃ m, n = acc + m * 2 ^ (7 * i) ∧ m < 128 ^ f ∧ s = encF f m ++ r ∧ (0 < i → 0 < m)
  | 0, _, _, _, _, _, h => by cases h
  | f + 1, i, acc, [], n, r, h => by cases h
  | f + 1, i, acc, c :: s, n, r, h => by
    have hc := UInt8.toNat_lt c
    have hu : ∀ k, k = c.toNat → k.toUInt8 = c := fun k e => by rw [e]; exact UInt8.toNat_inj.1 (u8_toNat hc)
    unfold rdF at h
    by_cases h1 : c.toNat < 128
    · rw [if_pos h1] at h
      by_cases h2 : 0 < i ∧ c.toNat = 0
      · rw [if_pos h2] at h; cases h
      · rw [if_neg h2] at h
        injection h with h
        injection h with e1 e2
        refine ⟨c.toNat, by rw [← e1, Nat.mod_eq_of_lt h1], ?_, ?_, fun hi => by omega⟩
        · rw [Nat.pow_succ]
          have : 0 < 128 ^ f := Nat.pow_pos (by decide)
          omega
        · unfold encF
          rw [if_pos h1, hu _ rfl, e2]; rfl
    · rw [if_neg h1] at h
      obtain ⟨m, hm, hlt, hs, h0⟩ := rdF_take f (i + 1) _ s n r h
      have hm0 := h0 (by omega)
      refine ⟨c.toNat % 128 + 128 * m, ?_, ?_, ?_, fun _ => by omega⟩
      · have e2 : 2 ^ (7 * (i + 1)) = 128 * 2 ^ (7 * i) := by rw [Nat.mul_add, Nat.pow_add, Nat.mul_comm]
        rw [hm, e2, Nat.add_mul, Nat.add_assoc]
        congr 2
        rw [← Nat.mul_assoc, Nat.mul_comm m 128]
      · rw [Nat.pow_succ]; omega
      · unfold encF
        rw [if_neg (by omega), show (c.toNat % 128 + 128 * m) % 128 + 128 = c.toNat from by omega, show (c.toNat % 128 + 128 * m) / 128 = m from by omega, hu _ rfl, hs]; rfl
theorem readN_take {limit : Nat} {s : List UInt8} {n : Nat} {r : List UInt8} (h : readN limit s = some (n, r)) (hl : limit ≤ most) : s = encN n ++ r ∧ n ≤ limit := by
  unfold readN at h
  cases h1 : rdF 7 0 0 s with
  | none => rw [h1] at h; cases h
  | some p =>
    obtain ⟨n', r'⟩ := p
    rw [h1] at h
    simp only at h
    by_cases h2 : n' ≤ limit
    · rw [if_pos h2] at h
      injection h with h
      injection h with e1 e2
      subst e1 e2
      obtain ⟨m, hm, _, hs, _⟩ := rdF_take 7 0 0 s n' r' h1
      have e : n' = m := by simpa using hm
      subst e
      refine ⟨?_, h2⟩
      rw [hs, encN_le (by omega)]
      congr 1
      exact encF_fuel 7 6 n' (by unfold most at hl; omega) (by unfold most at hl; omega)
    · rw [if_neg h2] at h; cases h
end Go.Proofs.Ytgcjfjmnccajeaa
