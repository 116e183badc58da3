/- Plain numbers: how many bits a word has, as math/bits counts them. -/
import Derived.WalkKit
namespace Go.Proofs.YtonicgbejmghkaaDoor
/-- How many of the first n numbers have p. -/
def cntB (p : Nat → Bool) : Nat → Nat
  | 0 => 0
  | n + 1 => cntB p n + if p n then 1 else 0
theorem cntB_congr {p q : Nat → Bool} : ∀ {n : Nat}, (∀ i, i < n → p i = q i) → cntB p n = cntB q n
  | 0, _ => rfl
  | n + 1, h => by
    show cntB p n + _ = cntB q n + _
    rw [cntB_congr (fun i hi => h i (by omega)), h n (by omega)]
theorem cntB_add (p : Nat → Bool) (m : Nat) : ∀ n, cntB p (m + n) = cntB p m + cntB (fun i => p (m + i)) n
  | 0 => rfl
  | n + 1 => by
    show cntB p (m + n) + (if p (m + n) then 1 else 0) = cntB p m + (cntB (fun i => p (m + i)) n + (if p (m + n) then 1 else 0))
    rw [cntB_add p m n, Nat.add_assoc]
theorem cntB_le (p : Nat → Bool) : ∀ n, cntB p n ≤ n
  | 0 => Nat.le_refl _
  | n + 1 => by
    show cntB p n + _ ≤ _
    have := cntB_le p n
    split <;> omega
def lane (f : Nat → Nat) : Nat → Nat → Nat
  | 0, _ => 0
  | n + 1, x => f (x % 256) + 256 * lane f n (x / 256)
def rep (c : Nat) : Nat → Nat
  | 0 => 0
  | n + 1 => c + 256 * rep c n
theorem and_split (a c d : Nat) (hc : c < 256) : a &&& (c + 256 * d) = ((a % 256) &&& c) + 256 * ((a / 256) &&& d) := by
  have h1 : (a &&& (c + 256 * d)) % 256 = (a % 256) &&& c := by
    rw [show (256 : Nat) = 2 ^ 8 from rfl, Nat.and_mod_two_pow]
    congr 1
    show (c + 256 * d) % 256 = c
    omega
  have h2 : (a &&& (c + 256 * d)) / 256 = (a / 256) &&& d := by
    rw [show (256 : Nat) = 2 ^ 8 from rfl, Nat.and_div_two_pow]
    congr 1
    show (c + 256 * d) / 256 = d
    omega
  omega
theorem and_rep (c : Nat) (hc : c < 256) : ∀ n a, a &&& rep c n = lane (fun b => b &&& c) n a
  | 0, a => Nat.and_zero a
  | n + 1, a => by
    show a &&& (c + 256 * rep c n) = _
    rw [and_split a c _ hc, and_rep c hc n]; rfl
theorem lane_congr {f g : Nat → Nat} (h : ∀ b, b < 256 → f b = g b) : ∀ n x, lane f n x = lane g n x
  | 0, _ => rfl
  | n + 1, x => by
    show f _ + _ = g _ + _
    rw [h _ (Nat.mod_lt _ (by omega)), lane_congr h n]
theorem lane_add (f g : Nat → Nat) : ∀ n x, lane f n x + lane g n x = lane (fun b => f b + g b) n x
  | 0, _ => rfl
  | n + 1, x => by
    show (f _ + _) + (g _ + _) = (f _ + g _) + _
    rw [← lane_add f g n]; omega
/-- A shift by less than a byte, and a mask that no bit of the next byte comes to. -/
theorem shift_rep (k c : Nat) (s : Nat) (hs : s = 2 ^ k) (hk : k ≤ 8) (hc : c < 256) (h : ∀ b, b < 256 → ∀ t, t < s → ((b / s + (256 / s) * t) &&& c) = ((b / s) &&& c)) : ∀ n x, (x / s) &&& rep c n = lane (fun b => (b / s) &&& c) n x
  | 0, x => Nat.and_zero _
  | n + 1, x => by
    show (x / s) &&& (c + 256 * rep c n) = _
    have hs0 : 0 < s := by rw [hs]; exact Nat.pow_pos (by omega)
    have e0 : s * (256 / s) = 256 := by
      rw [hs]
      have : k = 0 ∨ k = 1 ∨ k = 2 ∨ k = 3 ∨ k = 4 ∨ k = 5 ∨ k = 6 ∨ k = 7 ∨ k = 8 := by omega
      rcases this with rfl | rfl | rfl | rfl | rfl | rfl | rfl | rfl | rfl <;> rfl
    rw [and_split _ c _ hc]
    have e1 : x / s / 256 = x / 256 / s := by rw [Nat.div_div_eq_div_mul, Nat.div_div_eq_div_mul, Nat.mul_comm]
    have e2 : (x / s) % 256 = (x % 256) / s + (256 / s) * ((x / 256) % s) := by
      have a1 := Nat.div_add_mod x 256
      have a2 := Nat.div_add_mod (x / 256) s
      have : x = s * ((x % 256) / s + (256 / s) * ((x / 256) % s) + 256 * (x / 256 / s)) + (x % 256) % s := by
        have b1 := Nat.div_add_mod (x % 256) s
        rw [Nat.mul_add, Nat.mul_add, ← Nat.mul_assoc, e0, ← Nat.mul_assoc, Nat.mul_comm s 256, Nat.mul_assoc]
        omega
      have d1 : x / s = (x % 256) / s + (256 / s) * ((x / 256) % s) + 256 * (x / 256 / s) := by
        conv => lhs; rw [this]
        rw [Nat.mul_add_div hs0, Nat.div_eq_of_lt (Nat.mod_lt _ hs0), Nat.add_zero]
      have l1 : (x % 256) / s < 256 / s := by
        rw [Nat.div_lt_iff_lt_mul hs0, Nat.mul_comm, e0]; exact Nat.mod_lt _ (by omega)
      have l2 : (x / 256) % s < s := Nat.mod_lt _ hs0
      have l3 : (256 / s) * ((x / 256) % s) + 256 / s ≤ 256 := by
        have := Nat.mul_le_mul_left (256 / s) (Nat.succ_le_of_lt l2)
        rw [Nat.mul_succ, Nat.mul_comm (256 / s) s, e0] at this
        exact this
      rw [d1]; omega
    rw [e1, e2, h _ (Nat.mod_lt _ (by omega)) _ (Nat.mod_lt _ hs0), shift_rep k c s hs hk hc h n]
    rfl
theorem lane_lane (f g : Nat → Nat) (hg : ∀ b, b < 256 → g b < 256) : ∀ n x, lane f n (lane g n x) = lane (fun b => f (g b)) n x
  | 0, _ => rfl
  | n + 1, x => by
    have l := hg (x % 256) (Nat.mod_lt _ (by omega))
    have e1 : lane g (n + 1) x % 256 = g (x % 256) := by
      show (g (x % 256) + 256 * lane g n (x / 256)) % 256 = _
      omega
    have e2 : lane g (n + 1) x / 256 = lane g n (x / 256) := by
      show (g (x % 256) + 256 * lane g n (x / 256)) / 256 = _
      omega
    show f (lane g (n + 1) x % 256) + 256 * lane f n (lane g (n + 1) x / 256) = f (g (x % 256)) + 256 * lane (fun b => f (g b)) n (x / 256)
    rw [e1, e2, lane_lane f g hg n]
theorem nib_sum (g : Nat → Nat) (hg : ∀ b, b < 256 → g b % 16 ≤ 4 ∧ g b / 16 ≤ 4) : ∀ n x, (lane g n x / 16 + lane g n x) &&& rep 15 n = lane (fun b => (g b / 16 + g b) % 16) n x
  | 0, _ => Nat.and_zero _
  | n + 1, x => by
    have l := hg (x % 256) (Nat.mod_lt _ (by omega))
    have key : ∀ n x, lane g n x % 16 ≤ 4 := by
      intro n x
      cases n with
      | zero => show 0 % 16 ≤ 4; omega
      | succ n =>
        have l := hg (x % 256) (Nat.mod_lt _ (by omega))
        show (g (x % 256) + 256 * lane g n (x / 256)) % 16 ≤ 4
        omega
    have k := key n (x / 256)
    have ih := nib_sum g hg n (x / 256)
    show ((g (x % 256) + 256 * lane g n (x / 256)) / 16 + (g (x % 256) + 256 * lane g n (x / 256))) &&& (15 + 256 * rep 15 n) = (g (x % 256) / 16 + g (x % 256)) % 16 + 256 * lane _ n (x / 256)
    rw [and_split _ _ _ (by omega), ← ih]
    generalize g (x % 256) = a at l
    generalize lane g n (x / 256) = Y at k
    have e1 : ((a + 256 * Y) / 16 + (a + 256 * Y)) / 256 = Y / 16 + Y := by omega
    have e2 : ((a + 256 * Y) / 16 + (a + 256 * Y)) % 256 &&& 15 = (a / 16 + a) % 16 := by
      rw [show (15 : Nat) = 2 ^ 4 - 1 from rfl, Nat.and_two_pow_sub_one_eq_mod]
      omega
    rw [e1, e2]
def f1 (b : Nat) : Nat := ((b / 2) &&& 85) + (b &&& 85)
def f2 (b : Nat) : Nat := ((b / 4) &&& 51) + (b &&& 51)
def pc8 (b : Nat) : Nat := (f2 (f1 b) / 16 + f2 (f1 b)) % 16
theorem m1 : rep 85 8 = 6148914691236517205 := by decide
theorem m2 : rep 51 8 = 3689348814741910323 := by decide
theorem m4 : rep 15 8 = 1085102592571150095 := by decide
theorem s1 (x : Nat) : ((x / 2) &&& 6148914691236517205) + (x &&& 6148914691236517205) = lane f1 8 x := by
  rw [← m1, shift_rep 1 85 2 rfl (by omega) (by omega) (by decide +kernel), and_rep 85 (by omega), lane_add]
  rfl
theorem s2 (x : Nat) : ((x / 4) &&& 3689348814741910323) + (x &&& 3689348814741910323) = lane f2 8 x := by
  rw [← m2, shift_rep 2 51 4 rfl (by omega) (by omega) (by decide +kernel), and_rep 51 (by omega), lane_add]
  rfl
theorem f1_lt : ∀ b, b < 256 → f1 b < 256 := by decide +kernel
theorem f21 : ∀ b, b < 256 → f2 (f1 b) % 16 ≤ 4 ∧ f2 (f1 b) / 16 ≤ 4 := by decide +kernel
theorem s12 (x : Nat) : lane f2 8 (lane f1 8 x) = lane (fun b => f2 (f1 b)) 8 x := lane_lane f2 f1 f1_lt 8 x
theorem s3 (x : Nat) : (lane (fun b => f2 (f1 b)) 8 x / 16 + lane (fun b => f2 (f1 b)) 8 x) &&& 1085102592571150095 = lane pc8 8 x := by
  rw [← m4]; exact nib_sum _ f21 8 x
theorem pc8_eq : ∀ b, b < 256 → pc8 b = cntB (fun i => b.testBit i) 8 := by decide +kernel
/-- The number of a word's bits, byte by byte. -/
def pcs : Nat → Nat → Nat
  | 0, _ => 0
  | n + 1, x => pc8 (x % 256) + pcs n (x / 256)
theorem pcs_eq : ∀ n x, pcs n x = cntB (fun i => x.testBit i) (8 * n)
  | 0, _ => rfl
  | n + 1, x => by
    rw [show 8 * (n + 1) = 8 + 8 * n by omega, cntB_add]
    show pc8 (x % 256) + pcs n (x / 256) = _
    rw [pc8_eq _ (Nat.mod_lt _ (by omega)), pcs_eq n]
    congr 1
    · exact cntB_congr (fun i hi => by rw [show (256 : Nat) = 2 ^ 8 from rfl, Nat.testBit_mod_two_pow]; simp [hi])
    · exact cntB_congr (fun i _ => by rw [show (256 : Nat) = 2 ^ 8 from rfl, Nat.testBit_div_two_pow]; rw [Nat.add_comm])
theorem pc8_le (b : Nat) (h : b < 256) : pc8 b ≤ 8 := by rw [pc8_eq b h]; exact cntB_le _ _
/-- Digits to the base 256, the least one first. -/
def val (p : Nat → Nat) : Nat → Nat → Nat
  | 0, _ => 0
  | n + 1, i => p i + 256 * val p n (i + 1)
theorem val_add (p q : Nat → Nat) : ∀ n i, val p n i + val q n i = val (fun i => p i + q i) n i
  | 0, _ => rfl
  | n + 1, i => by
    have := val_add p q n (i + 1)
    simp only [val]; omega
theorem val_shift (p : Nat → Nat) (k : Nat) : ∀ n i, val p n (i + k) = val (fun i => p (i + k)) n i
  | 0, _ => rfl
  | n + 1, i => by
    have := val_shift p k n (i + 1)
    simp only [val]; rw [← this, show i + 1 + k = i + k + 1 by omega]
theorem val_more (p : Nat → Nat) (h : ∀ i, 8 ≤ i → p i = 0) : ∀ n i, 8 ≤ i → val p n i = 0
  | 0, _, _ => rfl
  | n + 1, i, hi => by simp only [val]; rw [h i hi, val_more p h n (i + 1) (by omega)]
theorem val_grow (p : Nat → Nat) (h : ∀ i, 8 ≤ i → p i = 0) : ∀ n i, 8 ≤ n + i → val p (n + 1) i = val p n i
  | 0, i, hi => by simp only [val]; rw [h i (by omega)]
  | n + 1, i, hi => by
    have := val_grow p h n (i + 1) (by omega)
    simp only [val] at this ⊢; omega
theorem val_div (p : Nat → Nat) (h : ∀ i, 8 ≤ i → p i = 0) (hl : ∀ i, p i < 256) (i : Nat) : val p 8 i / 256 = val p 8 (i + 1) := by
  have e := val_grow p h 7 (i + 1) (by omega)
  rw [e]
  show (p i + 256 * val p 7 (i + 1)) / 256 = _
  rw [Nat.add_mul_div_left _ _ (by omega), Nat.div_eq_of_lt (hl i), Nat.zero_add]
theorem val_lt (p : Nat → Nat) (hl : ∀ i, p i < 256) : ∀ n i, val p n i < 256 ^ n
  | 0, _ => by simp [val]
  | n + 1, i => by
    have := val_lt p hl n (i + 1)
    have h2 := hl i
    rw [Nat.pow_succ]
    simp only [val]; omega
def dig (x i : Nat) : Nat := if i < 8 then pc8 (x / 256 ^ i % 256) else 0
theorem dig_le (x i : Nat) : dig x i ≤ 8 := by
  unfold dig; split
  · exact pc8_le _ (Nat.mod_lt _ (by omega))
  · omega
theorem dig_big (x i : Nat) (h : 8 ≤ i) : dig x i = 0 := by unfold dig; rw [if_neg (by omega)]
theorem lane_val (x : Nat) : ∀ n i, n + i = 8 → lane pc8 n (x / 256 ^ i) = val (dig x) n i
  | 0, _, _ => rfl
  | n + 1, i, h => by
    have := lane_val x n (i + 1) (by omega)
    rw [Nat.pow_succ, ← Nat.div_div_eq_div_mul] at this
    simp only [lane, val]
    rw [this]; congr 1
    unfold dig; rw [if_pos (by omega)]
theorem pcs_val (x : Nat) : ∀ n i, n + i = 8 → pcs n (x / 256 ^ i) = (List.range' i n).foldr (fun j a => dig x j + a) 0
  | 0, _, _ => rfl
  | n + 1, i, h => by
    have := pcs_val x n (i + 1) (by omega)
    rw [Nat.pow_succ, ← Nat.div_div_eq_div_mul] at this
    simp only [pcs, List.range'_succ, List.foldr_cons]
    rw [this]; congr 1
    unfold dig; rw [if_pos (by omega)]
theorem lane_sum (x : Nat) : ∃ y4 y5 y6 : Nat, y4 = lane pc8 8 x / 256 + lane pc8 8 x ∧ y5 = y4 / 65536 + y4 ∧ y6 = y5 / 4294967296 + y5 ∧ y6 % 128 = pcs 8 x ∧ lane pc8 8 x < 18446744073709551616 ∧ y4 < 18446744073709551616 ∧ y5 < 18446744073709551616 ∧ y6 < 18446744073709551616 := by
  have e0 : lane pc8 8 x = val (dig x) 8 0 := by
    have := lane_val x 8 0 rfl
    simpa using this
  have hp : pcs 8 x = (List.range' 0 8).foldr (fun j a => dig x j + a) 0 := by
    have := pcs_val x 8 0 rfl
    simpa using this
  have l0 := dig_le x
  have b0 := dig_big x
  generalize dig x = p at e0 hp l0 b0
  have d0 : val p 8 0 / 256 = val (fun i => p (i + 1)) 8 0 := by rw [val_div p b0 (fun i => by have := l0 i; omega) 0, Nat.zero_add, ← Nat.zero_add 1, val_shift p 1 8 0]
  obtain ⟨q, hq⟩ : ∃ q : Nat → Nat, q = fun i => p (i + 1) + p i := ⟨_, rfl⟩
  have l1 : ∀ i, q i ≤ 16 := fun i => by rw [hq]; have := l0 i; have := l0 (i + 1); simp only; omega
  have b1 : ∀ i, 8 ≤ i → q i = 0 := fun i hi => by rw [hq]; simp only; rw [b0 i hi, b0 (i + 1) (by omega)]
  have y4 : lane pc8 8 x / 256 + lane pc8 8 x = val q 8 0 := by rw [e0, d0, val_add, hq]
  have d1 : val q 8 0 / 65536 = val (fun i => q (i + 2)) 8 0 := by
    rw [show 65536 = 256 * 256 from rfl, ← Nat.div_div_eq_div_mul, val_div q b1 (fun i => by have := l1 i; omega) 0, val_div q b1 (fun i => by have := l1 i; omega), show 0 + 1 + 1 = 0 + 2 from rfl, val_shift q 2 8 0]
  obtain ⟨r, hr⟩ : ∃ r : Nat → Nat, r = fun i => q (i + 2) + q i := ⟨_, rfl⟩
  have l2 : ∀ i, r i ≤ 32 := fun i => by rw [hr]; have := l1 i; have := l1 (i + 2); simp only; omega
  have b2 : ∀ i, 8 ≤ i → r i = 0 := fun i hi => by rw [hr]; simp only; rw [b1 i hi, b1 (i + 2) (by omega)]
  have y5 : val q 8 0 / 65536 + val q 8 0 = val r 8 0 := by rw [d1, val_add, hr]
  have lr : ∀ i, r i < 256 := fun i => by have := l2 i; omega
  have d2 : val r 8 0 / 4294967296 = val (fun i => r (i + 4)) 8 0 := by
    rw [show 4294967296 = 256 * 256 * 256 * 256 from rfl, ← Nat.div_div_eq_div_mul, ← Nat.div_div_eq_div_mul, ← Nat.div_div_eq_div_mul, val_div r b2 lr, val_div r b2 lr, val_div r b2 lr, val_div r b2 lr, show 0 + 1 + 1 + 1 + 1 = 0 + 4 from rfl, val_shift r 4 8 0]
  obtain ⟨t, ht⟩ : ∃ t : Nat → Nat, t = fun i => r (i + 4) + r i := ⟨_, rfl⟩
  have l3 : ∀ i, t i ≤ 64 := fun i => by rw [ht]; have := l2 i; have := l2 (i + 4); simp only; omega
  have y6 : val r 8 0 / 4294967296 + val r 8 0 = val t 8 0 := by rw [d2, val_add, ht]
  have big : ∀ u : Nat → Nat, (∀ i, u i < 256) → val u 8 0 < 18446744073709551616 := fun u hu => val_lt u hu 8 0
  refine ⟨val q 8 0, val r 8 0, val t 8 0, y4.symm, y5.symm, y6.symm, ?_, ?_, big q (fun i => by have := l1 i; omega), big r lr, big t (fun i => by have := l3 i; omega)⟩
  · rw [hp]
    have e : val t 8 0 % 128 = t 0 := by
      show (t 0 + 256 * val t 7 1) % 128 = _
      have := l3 0; omega
    rw [e, ht, hr, hq]
    show _ = p 0 + (p 1 + (p 2 + (p 3 + (p 4 + (p 5 + (p 6 + (p 7 + 0)))))))
    simp only [Nat.zero_add, Nat.reduceAdd]
    omega
  · rw [e0]; exact big p (fun i => by have := l0 i; omega)
end Go.Proofs.YtonicgbejmghkaaDoor
