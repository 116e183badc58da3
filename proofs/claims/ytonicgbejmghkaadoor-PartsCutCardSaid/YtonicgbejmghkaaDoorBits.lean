/- How many, and the least one. -/
import Derived.Test.YtonicgbejmghkaaDoorBytes
import Derived.Test.YtonicgbejmghkaaDoorBitsPure
import Derived.Shelf.Spec.TrailingZeros

namespace Go.Proofs.YtonicgbejmghkaaDoor
open Go.RowKit
theorem lane_lt (f : Nat → Nat) (hf : ∀ b, b < 256 → f b < 256) : ∀ n x, lane f n x < 256 ^ n
  | 0, _ => by simp [lane]
  | n + 1, x => by
    have h1 := lane_lt f hf n (x / 256)
    have h2 := hf (x % 256) (Nat.mod_lt _ (by omega))
    rw [Nat.pow_succ]
    simp only [lane]; omega
theorem and_div (x s m : Nat) (hx : x < 18446744073709551616) (hm : m < 18446744073709551616) : bits .and .u64 ((x : Int) / (s : Int)) (m : Int) = ((x / s &&& m : Nat) : Int) := by
  have h : x / s ≤ x := Nat.div_le_self _ _
  rw [← Int.natCast_ediv]
  exact u64_and_nat _ _ (by omega) hm
theorem wrap_nat (a b y : Nat) (h : a + b = y) (hy : y < 18446744073709551616) : IntKind.u64.wrap ((a : Int) + (b : Int)) = (y : Int) := by
  rw [← Int.natCast_add, h]
  exact IntWalk.u64_in _ (by omega)
theorem wrap_shift (a s y : Nat) (h : a / s + a = y) (hy : y < 18446744073709551616) : IntKind.u64.wrap ((a : Int) / (s : Int) + (a : Int)) = (y : Int) := by
  rw [← Int.natCast_ediv]; exact wrap_nat _ _ _ h hy
theorem wrap_shift' (a s y : Nat) (h : a / s + a = y) (hy : y < 18446744073709551616) : IntKind.u64.wrap ((a : Int) + (a : Int) / (s : Int)) = (y : Int) := by
  rw [Int.add_comm]; exact wrap_shift _ _ _ h hy
/-- What OnesCount64 comes to, step by step. -/
theorem ones_steps (x : Nat) (hx : x < 18446744073709551616) : ∃ a1 a2 y1 b1 b2 y2 s y3 y4 y5 y6 : Nat,
    bits .and .u64 ((x : Int) / 2) 6148914691236517205 = (a1 : Int) ∧ bits .and .u64 (x : Int) 6148914691236517205 = (a2 : Int) ∧ IntKind.u64.wrap ((a1 : Int) + (a2 : Int)) = (y1 : Int) ∧
    bits .and .u64 ((y1 : Int) / 4) 3689348814741910323 = (b1 : Int) ∧ bits .and .u64 (y1 : Int) 3689348814741910323 = (b2 : Int) ∧ IntKind.u64.wrap ((b1 : Int) + (b2 : Int)) = (y2 : Int) ∧
    IntKind.u64.wrap ((y2 : Int) / 16 + (y2 : Int)) = (s : Int) ∧ bits .and .u64 (s : Int) 1085102592571150095 = (y3 : Int) ∧
    IntKind.u64.wrap ((y3 : Int) + (y3 : Int) / 256) = (y4 : Int) ∧ IntKind.u64.wrap ((y4 : Int) + (y4 : Int) / 65536) = (y5 : Int) ∧ IntKind.u64.wrap ((y5 : Int) + (y5 : Int) / 4294967296) = (y6 : Int) ∧ y6 < 18446744073709551616 ∧ y6 % 128 = cntB (fun i => x.testBit i) 64 := by
  have l1 : lane f1 8 x < 18446744073709551616 := lane_lt f1 f1_lt 8 x
  have l2 : lane (fun b => f2 (f1 b)) 8 x < 18446744073709551616 := lane_lt _ (fun b hb => by have := f21 b hb; omega) 8 x
  obtain ⟨y4, y5, y6, e4, e5, e6, e7, k3, k4, k5, k6⟩ := lane_sum x
  have h1 := s1 x
  have h2 := s2 (lane f1 8 x)
  rw [s12] at h2
  have h3 := s3 x
  have hs : lane (fun b => f2 (f1 b)) 8 x / 16 + lane (fun b => f2 (f1 b)) 8 x < 18446744073709551616 := by
    have key : ∀ n z, lane (fun b => f2 (f1 b)) n z * 3 + 1 ≤ 256 ^ n := by
      intro n
      induction n with
      | zero => intro z; simp [lane]
      | succ n ih =>
        intro z
        have a := ih (z / 256)
        have b := f21 (z % 256) (Nat.mod_lt _ (by omega))
        rw [Nat.pow_succ]; simp only [lane]
        have : f2 (f1 (z % 256)) ≤ 68 := by omega
        have p : 1 ≤ 256 ^ n := Nat.one_le_pow _ _ (by omega)
        omega
    have := key 8 x
    have p : (256 : Nat) ^ 8 = 18446744073709551616 := by decide
    rw [p] at this
    omega
  refine ⟨_, _, lane f1 8 x, _, _, lane (fun b => f2 (f1 b)) 8 x, _, lane pc8 8 x, y4, y5, y6, and_div x 2 6148914691236517205 hx (by decide), u64_and_nat x 6148914691236517205 hx (by decide), wrap_nat _ _ _ h1 l1, and_div _ 4 3689348814741910323 l1 (by decide), u64_and_nat _ 3689348814741910323 l1 (by decide), wrap_nat _ _ _ h2 l2,
    wrap_shift _ 16 _ rfl hs, ?_, wrap_shift' _ 256 _ e4.symm k4, wrap_shift' _ 65536 _ e5.symm k5, wrap_shift' _ 4294967296 _ e6.symm k6, k6, ?_⟩
  · rw [← h3]; exact u64_and_nat _ 1085102592571150095 hs (by decide)
  · rw [e7, pcs_eq]
theorem and_127 (y : Nat) : bits .and .i64 (wrap64 (y : Int)) 127 = ((y % 128 : Nat) : Int) := by
  have h : BitVec.ofInt 64 (wrap64 (y : Int)) = BitVec.ofNat 64 y := by
    apply BitVec.eq_of_toNat_eq
    rw [BitVec.toNat_ofInt, BitVec.toNat_ofNat]
    unfold wrap64
    omega
  have e1 : ((BitVec.ofNat 64 y) &&& (BitVec.ofInt 64 127)).toNat = y % 128 := by
    rw [BitVec.toNat_and, BitVec.toNat_ofNat, show (BitVec.ofInt 64 127).toNat = 2 ^ 7 - 1 from rfl, Nat.and_two_pow_sub_one_eq_mod]
    omega
  unfold bits
  simp only [IntKind.bits, h]
  show IntKind.i64.wrap ((((BitVec.ofNat 64 y) &&& (BitVec.ofInt 64 127)).toNat : Nat) : Int) = _
  rw [e1]
  exact IntWalk.i64_in ((y % 128 : Nat) : Int) (by omega)
theorem ones_c (x : Nat) (hx : x < 18446744073709551616) (w : World) : Calls Tryd.prog 27 #[.int .u64 x] w fun e w' => e = .returned (.int .i64 (cntB (fun i => x.testBit i) 64)) ∧ w = w' := by
  obtain ⟨a1, a2, y1, b1, b2, y2, s, y3, y4, y5, y6, e1, e2, e3, e4, e5, e6, e7, e8, e9, e10, e11, e12, e13⟩ := ones_steps x hx
  have E := Lib.hid e13
  have F := and_127 y6
  clear e13 e12 hx
  go_enter Tryd.func27, Tryd.ntmps27
  go_wp2
  go_ret
  refine ⟨ret_int ?_, rfl⟩
  rw [← E.out]; omega
/-- How many a set has. -/
def cntS (S : Nat → Nat) : Nat := cntB (has S) 256
theorem cntS_eq (S : Nat → Nat) : cntS S = cntB (fun i => (S 0).testBit i) 64 + cntB (fun i => (S 1).testBit i) 64 + cntB (fun i => (S 2).testBit i) 64 + cntB (fun i => (S 3).testBit i) 64 := by
  unfold cntS
  rw [show (256 : Nat) = 64 + (64 + (64 + 64)) from rfl, cntB_add, cntB_add, cntB_add]
  have e : ∀ q, cntB (fun i => has S (64 * q + i)) 64 = cntB (fun i => (S q).testBit i) 64 := fun q => cntB_congr fun i hi => by
    unfold has
    rw [show (64 * q + i) / 64 = q by omega, show (64 * q + i) % 64 = i by omega]
  have e0 := e 0
  have e1 := e 1
  have e2 := e 2
  have e3 := e 3
  simp only [Nat.mul_zero, Nat.mul_one, Nat.zero_add] at e0 e1 e2 e3
  rw [show cntB (has S) 64 = cntB (fun i => has S i) 64 from rfl, e0, e1, show (fun i => has S (64 + (64 + i))) = (fun i => has S (64 * 2 + i)) from funext fun i => by rw [← Nat.add_assoc], e2, show (fun i => has S (64 + (64 + (64 + i)))) = (fun i => has S (64 * 3 + i)) from funext fun i => by rw [← Nat.add_assoc, ← Nat.add_assoc], e3]
  omega
theorem index_c (n0 n1 n2 n3 : Int) : (∀ w, (Instr.index 35 (.agg #[.int .u64 n0, .int .u64 n1, .int .u64 n2, .int .u64 n3]) (.int .i64 0)).run Tryd.prog w = .ok (.int .u64 n0) w) ∧ (∀ w, (Instr.index 35 (.agg #[.int .u64 n0, .int .u64 n1, .int .u64 n2, .int .u64 n3]) (.int .i64 1)).run Tryd.prog w = .ok (.int .u64 n1) w) ∧
    (∀ w, (Instr.index 35 (.agg #[.int .u64 n0, .int .u64 n1, .int .u64 n2, .int .u64 n3]) (.int .i64 2)).run Tryd.prog w = .ok (.int .u64 n2) w) ∧ (∀ w, (Instr.index 35 (.agg #[.int .u64 n0, .int .u64 n1, .int .u64 n2, .int .u64 n3]) (.int .i64 3)).run Tryd.prog w = .ok (.int .u64 n3) w) :=
  ⟨fun _ => by kernel_rfl, fun _ => by kernel_rfl, fun _ => by kernel_rfl, fun _ => by kernel_rfl⟩
theorem count_c (S : Nat → Nat) (hS : okS S) (w : World) : Calls Tryd.prog 16 #[setV S] w fun e w' => e = .returned (.int .i64 (cntS S)) ∧ Below w.heap.size w w' := by
  obtain ⟨i0, i1, i2, i3⟩ := index_c (S 0) (S 1) (S 2) (S 3)
  have C := Lib.hid (cntS_eq S)
  have HS := Lib.hid hS
  have l0 := cntB_le (fun i => (S 0).testBit i) 64
  have l1 := cntB_le (fun i => (S 1).testBit i) 64
  have l2 := cntB_le (fun i => (S 2).testBit i) 64
  have l3 := cntB_le (fun i => (S 3).testBit i) 64
  clear hS
  unfold setV
  go_enter Tryd.func16, Tryd.ntmps16
  go_wp2
  refine wp_loop_rounds 5 ?_
  rw [rounds_succ]; go_wp2_with (go_at_call 27; refine (ones_c _ (HS.out 0) _).mono ?_; rintro e w' ⟨rfl, rfl⟩)
  rw [rounds_succ]; go_wp2_with (go_at_call 27; refine (ones_c _ (HS.out 1) _).mono ?_; rintro e w' ⟨rfl, rfl⟩)
  rw [rounds_succ]; go_wp2_with (go_at_call 27; refine (ones_c _ (HS.out 2) _).mono ?_; rintro e w' ⟨rfl, rfl⟩)
  rw [rounds_succ]; go_wp2_with (go_at_call 27; refine (ones_c _ (HS.out 3) _).mono ?_; rintro e w' ⟨rfl, rfl⟩)
  rw [rounds_succ]; go_wp2
  go_ret
  exact ⟨ret_int (by rw [C.out]; simp), below_alloc (Below.refl _ _) _⟩
/-- The first of n numbers that has p; -1: none. -/
def firstB (p : Nat → Bool) : Nat → Int
  | 0 => -1
  | n + 1 => if firstB p n < 0 then (if p n then n else -1) else firstB p n
theorem firstB_none {p : Nat → Bool} : ∀ {n : Nat}, (∀ i, i < n → p i = false) → firstB p n = -1
  | 0, _ => rfl
  | n + 1, h => by
    unfold firstB
    rw [firstB_none (fun i hi => h i (by omega)), if_pos (by omega), h n (by omega)]; rfl
theorem firstB_at {p : Nat → Bool} {k : Nat} (hk : p k = true) (hl : ∀ i, i < k → p i = false) : ∀ {n : Nat}, k < n → firstB p n = k
  | 0, h => by omega
  | n + 1, h => by
    unfold firstB
    rcases Nat.lt_or_ge k n with g | g
    · rw [firstB_at hk hl g, if_neg (by omega)]
    · have e : k = n := by omega
      subst e
      rw [firstB_none hl, if_pos (by omega), hk]; rfl
theorem ctz_bit (x : Nat) (h0 : x ≠ 0) (hx : x < 18446744073709551616) : x.testBit (Lib.ctz 64 x) = true ∧ Lib.ctz 64 x < 64 ∧ ∀ i, i < Lib.ctz 64 x → x.testBit i = false := by
  unfold Lib.ctz
  rw [if_neg h0]
  obtain ⟨m, e, hl⟩ := Lib.ctzFrom_spec 64 x (by omega) (by simpa using hx)
  generalize Lib.ctzFrom 64 x = k at e hl
  refine ⟨?_, hl, fun i hi => ?_⟩
  · rw [Nat.testBit_eq_decide_div_mod_eq, e, Nat.mul_div_cancel_left _ (Nat.two_pow_pos k)]
    simp <;> omega
  · obtain ⟨d, rfl⟩ : ∃ d, k = i + 1 + d := ⟨k - i - 1, by omega⟩
    rw [Nat.testBit_eq_decide_div_mod_eq, e, Nat.pow_add, Nat.pow_succ, Nat.mul_assoc, Nat.mul_assoc, Nat.mul_div_cancel_left _ (Nat.two_pow_pos i)]
    simp
theorem tz_c (x : Nat) (h0 : x ≠ 0) (hx : x < 18446744073709551616) (w : World) (hT : TabAt 0 Lib.deBruijn64tab w) : Calls Tryd.prog 29 #[.int .u64 x] w fun e w' => e = .returned (.int .i64 (Lib.ctz 64 x)) ∧ w = w' := by
  obtain ⟨hlow, hk⟩ := Lib.lowest_bit 64 x h0 hx
  obtain ⟨hi, htab⟩ := Lib.deBruijn64_at _ hk
  have hcell := hT _ hi
  rw [htab] at hcell
  have key := tz64_key x _ hx h0 hlow
  have hx0 : ((x : Int) == 0) = false := by simp; omega
  have HK := Lib.hid hk
  generalize Lib.ctz 64 x = k at hcell key HK hi ⊢
  obtain ⟨idx, hidx⟩ : ∃ idx, 2 ^ k * 285870213051353865 % 18446744073709551616 / 288230376151711744 = idx := ⟨_, rfl⟩
  rw [hidx] at key hcell hi
  have hk' := HK.out
  clear hlow htab hidx h0 hT hk
  go_enter Tryd.func29, Tryd.ntmps29
  go_wp2_with (simp only [key])
  go_ret
  exact ⟨rfl, rfl⟩
theorem TabAt.below {g : Nat} {tab : List Nat} {w w' : World} (h : TabAt g tab w) (k : Below w.heap.size w w') : TabAt g tab w' := fun j hj => by
  have := h j hj
  rw [← this]
  refine k.cell (p := ⟨g, j, none⟩) ?_
  unfold World.cell? at this
  cases hh : w.heap[g]? with
  | none => rw [hh] at this; cases this
  | some o => exact (Array.getElem?_eq_some_iff.1 hh).1
def leastS (S : Nat → Nat) : Int := firstB (has S) 256
theorem least_at (S : Nat → Nat) (hS : okS S) (q : Nat) (hq : q < 4) (h0 : S q ≠ 0) (hl : ∀ i, i < q → S i = 0) : leastS S = ((q * 64 + Lib.ctz 64 (S q) : Nat) : Int) := by
  obtain ⟨h1, h2, h3⟩ := ctz_bit (S q) h0 (hS q)
  refine firstB_at ?_ (fun i hi => ?_) (by omega)
  · unfold has
    rw [show (q * 64 + Lib.ctz 64 (S q)) / 64 = q by omega, show (q * 64 + Lib.ctz 64 (S q)) % 64 = Lib.ctz 64 (S q) by omega]
    exact h1
  · unfold has
    rcases Nat.lt_or_ge (i / 64) q with g | g
    · rw [hl _ g]; simp
    · have e : i / 64 = q := by omega
      rw [e]; exact h3 _ (by omega)
theorem least_no (S : Nat → Nat) (h : ∀ i, i < 4 → S i = 0) : leastS S = -1 := firstB_none fun i hi => by
  unfold has; rw [h _ (by omega)]; simp
theorem least_0 (S : Nat → Nat) (hS : okS S) (w : World) (hT : TabAt 0 Lib.deBruijn64tab w)  (h : S 0 ≠ 0) : Calls Tryd.prog 26 #[setV S] w fun e w' => e = .returned (.int .i64 (leastS S)) ∧ Below w.heap.size w w' := by
  have R := least_at S hS 0 (by decide) h (fun i hi => by omega)
  have HR := Lib.hid R
  obtain ⟨i0, i1, i2, i3⟩ := index_c (S 0) (S 1) (S 2) (S 3)
  have HT := Lib.hid hT
  have HH := Lib.hid h
  have HSQ := Lib.hid (hS 0)
  have hcz := (ctz_bit (S 0) h (hS 0)).2.1
  have z0 : ((S 0 : Int) != 0) = true := by simp; omega
  clear R hS hT h
  unfold setV
  go_enter Tryd.func26, Tryd.ntmps26
  go_wp2_with fail
  refine wp_loop_rounds 5 ?_
  rw [rounds_succ]; go_wp2_with (go_at_call 29; refine (tz_c _ HH.out HSQ.out _ (TabAt.below HT.out (below_alloc (Below.refl _ _) _))).mono ?_; rintro e w' ⟨rfl, rfl⟩)
  go_ret
  exact ⟨ret_int (by rw [HR.out]; simp), below_alloc (Below.refl _ _) _⟩
theorem least_1 (S : Nat → Nat) (hS : okS S) (w : World) (hT : TabAt 0 Lib.deBruijn64tab w) (h0 : S 0 = 0) (h : S 1 ≠ 0) : Calls Tryd.prog 26 #[setV S] w fun e w' => e = .returned (.int .i64 (leastS S)) ∧ Below w.heap.size w w' := by
  have R := least_at S hS 1 (by decide) h (fun i hi => by rcases (show i = 0 by omega) with rfl <;> assumption)
  have HR := Lib.hid R
  obtain ⟨i0, i1, i2, i3⟩ := index_c (S 0) (S 1) (S 2) (S 3)
  have HT := Lib.hid hT
  have HH := Lib.hid h
  have HSQ := Lib.hid (hS 1)
  have hcz := (ctz_bit (S 1) h (hS 1)).2.1
  have z0 : ((S 0 : Int) != 0) = false := by simp [h0]
  have z1 : ((S 1 : Int) != 0) = true := by simp; omega
  clear R hS hT h h0
  unfold setV
  go_enter Tryd.func26, Tryd.ntmps26
  go_wp2_with fail
  refine wp_loop_rounds 5 ?_
  rw [rounds_succ]; go_wp2_with fail
  rw [rounds_succ]; go_wp2_with (go_at_call 29; refine (tz_c _ HH.out HSQ.out _ (TabAt.below HT.out (below_alloc (Below.refl _ _) _))).mono ?_; rintro e w' ⟨rfl, rfl⟩)
  go_ret
  exact ⟨ret_int (by rw [HR.out]; simp), below_alloc (Below.refl _ _) _⟩
theorem least_2 (S : Nat → Nat) (hS : okS S) (w : World) (hT : TabAt 0 Lib.deBruijn64tab w) (h0 : S 0 = 0) (h1 : S 1 = 0) (h : S 2 ≠ 0) : Calls Tryd.prog 26 #[setV S] w fun e w' => e = .returned (.int .i64 (leastS S)) ∧ Below w.heap.size w w' := by
  have R := least_at S hS 2 (by decide) h (fun i hi => by rcases (show i = 0 ∨ i = 1 by omega) with rfl | rfl <;> assumption)
  have HR := Lib.hid R
  obtain ⟨i0, i1, i2, i3⟩ := index_c (S 0) (S 1) (S 2) (S 3)
  have HT := Lib.hid hT
  have HH := Lib.hid h
  have HSQ := Lib.hid (hS 2)
  have hcz := (ctz_bit (S 2) h (hS 2)).2.1
  have z0 : ((S 0 : Int) != 0) = false := by simp [h0]
  have z1 : ((S 1 : Int) != 0) = false := by simp [h1]
  have z2 : ((S 2 : Int) != 0) = true := by simp; omega
  clear R hS hT h h0 h1
  unfold setV
  go_enter Tryd.func26, Tryd.ntmps26
  go_wp2_with fail
  refine wp_loop_rounds 5 ?_
  rw [rounds_succ]; go_wp2_with fail
  rw [rounds_succ]; go_wp2_with fail
  rw [rounds_succ]; go_wp2_with (go_at_call 29; refine (tz_c _ HH.out HSQ.out _ (TabAt.below HT.out (below_alloc (Below.refl _ _) _))).mono ?_; rintro e w' ⟨rfl, rfl⟩)
  go_ret
  exact ⟨ret_int (by rw [HR.out]; simp), below_alloc (Below.refl _ _) _⟩
theorem least_3 (S : Nat → Nat) (hS : okS S) (w : World) (hT : TabAt 0 Lib.deBruijn64tab w) (h0 : S 0 = 0) (h1 : S 1 = 0) (h2 : S 2 = 0) (h : S 3 ≠ 0) : Calls Tryd.prog 26 #[setV S] w fun e w' => e = .returned (.int .i64 (leastS S)) ∧ Below w.heap.size w w' := by
  have R := least_at S hS 3 (by decide) h (fun i hi => by rcases (show i = 0 ∨ i = 1 ∨ i = 2 by omega) with rfl | rfl | rfl <;> assumption)
  have HR := Lib.hid R
  obtain ⟨i0, i1, i2, i3⟩ := index_c (S 0) (S 1) (S 2) (S 3)
  have HT := Lib.hid hT
  have HH := Lib.hid h
  have HSQ := Lib.hid (hS 3)
  have hcz := (ctz_bit (S 3) h (hS 3)).2.1
  have z0 : ((S 0 : Int) != 0) = false := by simp [h0]
  have z1 : ((S 1 : Int) != 0) = false := by simp [h1]
  have z2 : ((S 2 : Int) != 0) = false := by simp [h2]
  have z3 : ((S 3 : Int) != 0) = true := by simp; omega
  clear R hS hT h h0 h1 h2
  unfold setV
  go_enter Tryd.func26, Tryd.ntmps26
  go_wp2_with fail
  refine wp_loop_rounds 5 ?_
  rw [rounds_succ]; go_wp2_with fail
  rw [rounds_succ]; go_wp2_with fail
  rw [rounds_succ]; go_wp2_with fail
  rw [rounds_succ]; go_wp2_with (go_at_call 29; refine (tz_c _ HH.out HSQ.out _ (TabAt.below HT.out (below_alloc (Below.refl _ _) _))).mono ?_; rintro e w' ⟨rfl, rfl⟩)
  go_ret
  exact ⟨ret_int (by rw [HR.out]; simp), below_alloc (Below.refl _ _) _⟩
theorem least_4 (S : Nat → Nat) (_hS : okS S) (w : World) (hT : TabAt 0 Lib.deBruijn64tab w) (h0 : S 0 = 0) (h1 : S 1 = 0) (h2 : S 2 = 0) (h3 : S 3 = 0) : Calls Tryd.prog 26 #[setV S] w fun e w' => e = .returned (.int .i64 (leastS S)) ∧ Below w.heap.size w w' := by
  have R := least_no S (fun i hi => by rcases (show i = 0 ∨ i = 1 ∨ i = 2 ∨ i = 3 by omega) with rfl | rfl | rfl | rfl <;> assumption)
  have HR := Lib.hid R
  obtain ⟨i0, i1, i2, i3⟩ := index_c (S 0) (S 1) (S 2) (S 3)
  have HT := Lib.hid hT
  have z0 : ((S 0 : Int) != 0) = false := by simp [h0]
  have z1 : ((S 1 : Int) != 0) = false := by simp [h1]
  have z2 : ((S 2 : Int) != 0) = false := by simp [h2]
  have z3 : ((S 3 : Int) != 0) = false := by simp [h3]
  clear R hT h0 h1 h2 h3
  unfold setV
  go_enter Tryd.func26, Tryd.ntmps26
  go_wp2_with fail
  refine wp_loop_rounds 5 ?_
  rw [rounds_succ]; go_wp2_with fail
  rw [rounds_succ]; go_wp2_with fail
  rw [rounds_succ]; go_wp2_with fail
  rw [rounds_succ]; go_wp2_with fail
  rw [rounds_succ]; go_wp2_with fail
  go_ret
  exact ⟨ret_int (by rw [HR.out]), below_alloc (Below.refl _ _) _⟩
theorem least_c (S : Nat → Nat) (hS : okS S) (w : World) (hT : TabAt 0 Lib.deBruijn64tab w) : Calls Tryd.prog 26 #[setV S] w fun e w' => e = .returned (.int .i64 (leastS S)) ∧ Below w.heap.size w w' := by
  by_cases h0 : S 0 = 0
  · by_cases h1 : S 1 = 0
    · by_cases h2 : S 2 = 0
      · by_cases h3 : S 3 = 0
        · exact least_4 S hS w hT h0 h1 h2 h3
        · exact least_3 S hS w hT h0 h1 h2 h3
      · exact least_2 S hS w hT h0 h1 h2
    · exact least_1 S hS w hT h0 h1
  · exact least_0 S hS w hT h0
end Go.Proofs.YtonicgbejmghkaaDoor
