/- The wire's reader: numbers. -/
import Derived.Test.YtgcjfjmnccajeaaWire1
import Derived.Lib.EndianBits
namespace Go.Proofs.Ytgcjfjmnccajeaa
open Go.RowKit
/-- What number answers, and leaves: a number, the rest, whether it is bad. -/
def rdP (limit : Nat) : Nat → Nat → Nat → List UInt8 → Bool → Nat × List UInt8 × Bool
  | 0, _, _, rest, _ => (0, rest, true)
  | f + 1, i, acc, rest, bad =>
    if (oneB rest bad).1 < 128 then (acc + (oneB rest bad).1 % 128 * 2 ^ (7 * i), (oneB rest bad).2.1, (oneB rest bad).2.2 || (decide (limit < acc + (oneB rest bad).1 % 128 * 2 ^ (7 * i)) || (decide (0 < i) && decide ((oneB rest bad).1 = 0))))
    else rdP limit f (i + 1) (acc + (oneB rest bad).1 % 128 * 2 ^ (7 * i)) (oneB rest bad).2.1 (oneB rest bad).2.2
theorem and_low : ∀ c, c < 256 → bits BinOp.and IntKind.u8 ((c : Nat) : Int) 127 = ((c % 128 : Nat) : Int) := by decide +kernel
theorem i64_id (n : Int) (h : 0 ≤ n) (h2 : n < 2 ^ 63) : IntKind.i64.wrap n = n := by rw [IntKind.wrap_i64]; omega
theorem pow7 {i : Nat} (hi : i < 7) : 2 ^ (7 * i) ≤ 4398046511104 ∧ 0 < 2 ^ (7 * i) := by
  have : i = 0 ∨ i = 1 ∨ i = 2 ∨ i = 3 ∨ i = 4 ∨ i = 5 ∨ i = 6 := by omega
  rcases this with rfl | rfl | rfl | rfl | rfl | rfl | rfl <;> decide
theorem or_num (i c acc : Nat) (hi : i < 7) (hc : c < 256) (ha : acc < 2 ^ (7 * i)) : bits BinOp.or IntKind.i64 (acc : Int) (wrap64 (wrap64 (bits BinOp.and IntKind.u8 (c : Int) 127) * 2 ^ (7 * i))) = ((acc + c % 128 * 2 ^ (7 * i) : Nat) : Int) := by
  rw [and_low c hc]
  obtain ⟨hp, hp0⟩ := pow7 hi
  have h1 : wrap64 ((c % 128 : Nat) : Int) = ((c % 128 : Nat) : Int) := by unfold wrap64; omega
  have hm : c % 128 * 2 ^ (7 * i) ≤ 127 * 4398046511104 := Nat.mul_le_mul (by omega) hp
  have h2 : ((c % 128 : Nat) : Int) * 2 ^ (7 * i) = ((c % 128 * 2 ^ (7 * i) : Nat) : Int) := by rw [Int.natCast_mul, Int.natCast_pow]; rfl
  have h3 : wrap64 ((c % 128 * 2 ^ (7 * i) : Nat) : Int) = ((c % 128 * 2 ^ (7 * i) : Nat) : Int) := by unfold wrap64; omega
  rw [h1, h2, h3, bits_join_low .i64 63 (by decide) i64_id (7 * i) (acc : Int) ((c % 128 * 2 ^ (7 * i) : Nat) : Int) (by omega) (by exact_mod_cast ha) (by omega) (by omega) (by exact_mod_cast Nat.mul_mod_left _ _) (by omega)]
  omega
theorem one_lt (rest : List UInt8) (bad : Bool) : (oneB rest bad).1 < 256 := by
  cases rest with
  | nil => exact Nat.zero_lt_succ _
  | cons c r => exact UInt8.toNat_lt c
theorem one_le (rest : List UInt8) (bad : Bool) : (oneB rest bad).2.1.length ≤ rest.length := by
  cases rest with
  | nil => exact Nat.le_refl _
  | cons c r => simp [oneB]
set_option maxHeartbeats 2000000 in
set_option maxRecDepth 100000 in
theorem num_c (limit : Nat) (b : Nat) (t : TypeId) (tl : List Value) (rest : List UInt8) (hl : rest.length ≤ 1000000) (bad : Bool) (w : World) (h : Rd b t tl rest bad w) : Calls Try.prog 33 #[.pointer (some ⟨b, 0, none⟩), .int .i64 limit] w fun e w' =>
    e = .returned (.int .i64 (rdP limit 7 0 0 rest bad).1) ∧ Rd b t tl (rdP limit 7 0 0 rest bad).2.1 (rdP limit 7 0 0 rest bad).2.2 w' ∧ Only [b] w w' := by
  have H := Lib.hid h
  have OC := Lib.hid (fun rest hl bad w1 h => one_c b t tl rest hl bad w1 h)
  have hl' := hl
  clear h
  go_enter Try.func33, Try.ntmps33
  go_wp2_with fail
  go_loopw [4, 7] (fun v4 v7 wr => ∃ (i acc : Nat) (r : List UInt8) (bd : Bool), i ≤ 7 ∧ v7 = .int .i64 i ∧ v4 = .int .i64 acc ∧ acc < 2 ^ (7 * i) ∧ r.length ≤ rest.length ∧ rdP limit 7 0 0 rest bad = rdP limit (7 - i) i acc r bd ∧ Rd b t tl r bd wr ∧ Only [b] w wr) (fun _ v7 _ => 7 - (intOf v7).toNat)
  case atStart => exact ⟨0, 0, rest, bad, by omega, rfl, rfl, by decide, Nat.le_refl _, rfl, H.out, Only.refl _ _⟩
  case round =>
    obtain ⟨i, acc, r, bd, hi, rfl, rfl, hacc, hrl, heq, hrd, hon⟩ := hrel
    have HE := Lib.hid heq
    have HR := Lib.hid hrd
    have HN := Lib.hid hon
    clear heq hrd hon
    by_cases hlt : i < 7
    · have t1 : decide ((i : Int) < 7) = true := by simp; omega
      have C := Lib.hid (OC.out r (by omega) bd _ HR.out)
      have hc := one_lt r bd
      go_wp2_with fail
      refine C.out.mono ?_; rintro e w1 ⟨rfl, h1, h2⟩
      have H1 := Lib.hid h1
      have H2 := Lib.hid (HN.out.trans h2)
      clear h1 h2
      obtain ⟨c, hc0⟩ : ∃ c, c = (oneB r bd).1 := ⟨_, rfl⟩
      rw [← hc0] at hc ⊢
      have HC := Lib.hid hc0
      clear hc0
      have ON := or_num i c acc hlt hc hacc
      have c1 := H1.out.cell1
      have f1 := H1.out.free 1
      by_cases h128 : c < 128
      · have t2 : decide (c < 128) = true := by simp; omega
        have HX := Lib.hid (show rdP limit (7 - i) i acc r bd = (acc + c % 128 * 2 ^ (7 * i), (oneB r bd).2.1, (oneB r bd).2.2 || (decide (limit < acc + c % 128 * 2 ^ (7 * i)) || (decide (0 < i) && decide (c = 0)))) from by
          rw [show 7 - i = (7 - (i + 1)) + 1 from by omega]
          show (if (oneB r bd).1 < 128 then _ else _) = _
          rw [← HC.out, if_pos h128])
        generalize (oneB r bd).2.1 = r2 at *
        generalize (oneB r bd).2.2 = b2 at *
        have hn : ((acc + c % 128 * 2 ^ (7 * i) : Nat) : Int) = (acc + c % 128 * 2 ^ (7 * i) : Nat) := rfl
        generalize acc + c % 128 * 2 ^ (7 * i) = n at *
        cases b2 with
        | true =>
          go_wp2_with fail
          go_returns
          refine ⟨ret_int (by rw [HE.out, HX.out]), ?_, H2.out.trans ((Only.refl _ _).set (by simp) _)⟩
          rw [HE.out, HX.out]
          exact H1.out.set1 _
        | false =>
          by_cases h3 : limit < n
          · have t3 : decide (limit < n) = true := by simp; omega
            rw [t3] at HX
            go_wp2_with fail
            go_returns
            refine ⟨ret_int (by rw [HE.out, HX.out]), ?_, H2.out.trans ((Only.refl _ _).set (by simp) _)⟩
            rw [HE.out, HX.out]
            exact H1.out.set1 _
          · have t3 : decide (limit < n) = false := by simp; omega
            rw [t3] at HX
            by_cases h4 : 0 < i
            · have t4 : decide (0 < i) = true := by simp; omega
              rw [t4] at HX
              by_cases h5 : c = 0
              · have t5 : ((c : Int) == 0) = true := by rw [h5]; rfl
                have t6 : decide (c = 0) = true := by simp; omega
                rw [t6] at HX
                clear h5
                go_wp2_with fail
                go_returns
                refine ⟨ret_int (by rw [HE.out, HX.out]), ?_, H2.out.trans ((Only.refl _ _).set (by simp) _)⟩
                rw [HE.out, HX.out]
                exact H1.out.set1 _
              · have t5 : ((c : Int) == 0) = false := by rw [beq_eq_false_iff_ne]; omega
                have t6 : decide (c = 0) = false := by simp; omega
                rw [t6] at HX
                clear h5
                go_wp2_with fail
                go_returns
                refine ⟨ret_int (by rw [HE.out, HX.out]), ?_, H2.out.trans ((Only.refl _ _).set (by simp) _)⟩
                rw [HE.out, HX.out]
                exact H1.out.set1 _
            · have t4 : decide (0 < i) = false := by simp; omega
              rw [t4] at HX
              go_wp2_with fail
              go_returns
              refine ⟨ret_int (by rw [HE.out, HX.out]), ?_, H2.out.trans ((Only.refl _ _).set (by simp) _)⟩
              rw [HE.out, HX.out]
              exact H1.out.set1 _
      · have t2 : decide (c < 128) = false := by simp; omega
        have NX := Lib.hid (show acc + c % 128 * 2 ^ (7 * i) < 2 ^ (7 * (i + 1)) from by
          have e : 2 ^ (7 * (i + 1)) = 128 * 2 ^ (7 * i) := by rw [Nat.mul_add, Nat.pow_add, Nat.mul_comm]
          have h := Nat.mul_le_mul_right (2 ^ (7 * i)) (show c % 128 ≤ 127 by omega)
          rw [e]; omega)
        have HX := Lib.hid (show rdP limit (7 - i) i acc r bd = rdP limit (7 - (i + 1)) (i + 1) (acc + c % 128 * 2 ^ (7 * i)) (oneB r bd).2.1 (oneB r bd).2.2 from by
          rw [show 7 - i = (7 - (i + 1)) + 1 from by omega]
          show (if (oneB r bd).1 < 128 then _ else _) = _
          rw [← HC.out, if_neg h128])
        go_wp2_with fail
        go_roundw
        case rel => exact ⟨i + 1, acc + c % 128 * 2 ^ (7 * i), _, _, by omega, by go_num, rfl, NX.out, Nat.le_trans (one_le r bd) hrl, HE.out.trans HX.out, H1.out, H2.out⟩
        case measure => simp [intOf]; omega
    · have e : i = 7 := by omega
      subst e
      have c1 := HR.out.cell1
      have f1 := HR.out.free 1
      have HX := Lib.hid (show rdP limit (7 - 7) 7 acc r bd = (0, r, true) from rfl)
      go_wp2_with fail
      go_returns
      refine ⟨ret_int (by rw [HE.out, HX.out]; rfl), ?_, HN.out.trans ((Only.refl _ _).set (by simp) _)⟩
      rw [HE.out, HX.out]
      exact HR.out.set1 true
end Go.Proofs.Ytgcjfjmnccajeaa
