/- The reference's numbers. -/
import Derived.Test.YtgcjfjmnccajeaaWire4
import Derived.Test.YtgcjfjmnccajeaaWirePure2
import Derived.Deep.Light
namespace Go.Proofs.Ytgcjfjmnccajeaa
open Go.RowKit
def inB (n : Int) : Bool := decide (0 ≤ n) && decide (n ≤ 1099511627776)
set_option maxHeartbeats 1000000 in
theorem within_c (n : Int) (w : World) : Calls Try.prog 24 #[.int .i64 n] w fun e w' => e = .returned (.bool (inB n)) ∧ w = w' := by
  unfold inB
  by_cases h0 : 0 ≤ n
  · rw [decide_eq_true h0]
    by_cases h1 : n ≤ 1099511627776
    · rw [decide_eq_true h1]
      go_enter Try.func24, Try.ntmps24
      go_wp2_with fail
      go_returns
      exact ⟨rfl, rfl⟩
    · have t : decide (n ≤ 1099511627776) = false := decide_eq_false h1
      rw [t]
      go_enter Try.func24, Try.ntmps24
      go_wp2_with fail
      go_returns
      exact ⟨by simp, rfl⟩
  · have t : decide (0 ≤ n) = false := decide_eq_false h0
    rw [t]
    go_enter Try.func24, Try.ntmps24
    go_wp2_with fail
    go_returns
    exact ⟨by simp, rfl⟩
/-- The number that bytes begin with, and how many it takes. -/
def takeP (s : List UInt8) : Nat × Nat :=
  match readN most s with
  | some (n, r) => (n, s.length - r.length)
  | none => (0, 0)
theorem mk_byte {s : ByteArray} {l : List UInt8} (hs : s = ⟨l.toArray⟩) (k : Nat) (hk : k < l.length) (h : k < s.size) : (s[k]'h).toNat = l[k].toNat := by subst hs; rfl
theorem rd_bound : ∀ (f i acc : Nat) (s : List UInt8) (n : Nat) (r : List UInt8), rdF f i acc s = some (n, r) → r.length < s.length
  | 0, _, _, _, _, _, h => by cases h
  | f + 1, _, _, [], _, _, h => by cases h
  | f + 1, i, acc, c :: s, n, r, h => by
    unfold rdF at h
    by_cases h1 : c.toNat < 128
    · rw [if_pos h1] at h
      by_cases h2 : 0 < i ∧ c.toNat = 0
      · rw [if_pos h2] at h; cases h
      · rw [if_neg h2] at h
        injection h with h
        injection h with _ e2
        rw [← e2]; simp
    · rw [if_neg h1] at h
      have := rd_bound f _ _ s n r h
      simp; omega
theorem take_none {l : List UInt8} (h : ∀ n r, rdF 7 0 0 l = some (n, r) → most < n) : takeP l = (0, 0) := by
  have : readN most l = none := by
    unfold readN
    cases h1 : rdF 7 0 0 l with
    | none => rfl
    | some p => obtain ⟨n, r⟩ := p; have := h n r h1; simp; omega
  unfold takeP; rw [this]
theorem take_some {l : List UInt8} {m i : Nat} (h : rdF 7 0 0 l = some (m, l.drop (i + 1))) (hi : i < l.length) (hm : m ≤ most) : takeP l = (m, i + 1) := by
  have : readN most l = some (m, l.drop (i + 1)) := by unfold readN; rw [h]; simp [hm]
  unfold takeP; rw [this]; simp; omega
theorem rdF_last {g i acc : Nat} {c : UInt8} {r : List UInt8} (hc : c.toNat < 128) : rdF (g + 1) i acc (c :: r) = if 0 < i ∧ c.toNat = 0 then none else some (acc + c.toNat % 128 * 2 ^ (7 * i), r) := by
  show (if c.toNat < 128 then _ else _) = _
  rw [if_pos hc]
theorem rdF_more {g i acc : Nat} {c : UInt8} {r : List UInt8} (hc : ¬ c.toNat < 128) : rdF (g + 1) i acc (c :: r) = rdF g (i + 1) (acc + c.toNat % 128 * 2 ^ (7 * i)) r := by
  show (if c.toNat < 128 then _ else _) = _
  rw [if_neg hc]
theorem rdF_sum {i acc c : Nat} (hi : i < 7) (ha : acc < 2 ^ (7 * i)) : wrap64 ((acc : Int) + wrap64 ((c : Int) % 128 * 2 ^ (7 * i))) = ((acc + c % 128 * 2 ^ (7 * i) : Nat) : Int) ∧ acc + c % 128 * 2 ^ (7 * i) < 2 ^ (7 * (i + 1)) ∧ acc + c % 128 * 2 ^ (7 * i) < 562949953421312 := by
  obtain ⟨hp, hp0⟩ := pow7 hi
  have hm : c % 128 * 2 ^ (7 * i) ≤ 127 * 4398046511104 := Nat.mul_le_mul (by omega) hp
  have h2 : ((c : Int) % 128) * 2 ^ (7 * i) = ((c % 128 * 2 ^ (7 * i) : Nat) : Int) := by rw [Int.natCast_mul, Int.natCast_pow]; rfl
  have e : 2 ^ (7 * (i + 1)) = 128 * 2 ^ (7 * i) := by rw [Nat.mul_add, Nat.pow_add, Nat.mul_comm]
  have h := Nat.mul_le_mul_right (2 ^ (7 * i)) (show c % 128 ≤ 127 by omega)
  refine ⟨?_, by rw [e]; omega, by omega⟩
  rw [h2]
  unfold wrap64
  omega
theorem inB_ok {m : Nat} (h : m ≤ most) : inB (m : Int) = true := by unfold inB; unfold most at h; simp; omega
theorem inB_no {m : Nat} (h : ¬ m ≤ most) : inB (m : Int) = false := by unfold inB; unfold most at h; simp; omega
set_option maxHeartbeats 2000000 in
set_option maxRecDepth 100000 in
theorem take_c (l : List UInt8) (hl : l.length ≤ 1000000) (w : World) : Calls Try.prog 30 #[str l] w fun e w' => e = .returned (.tuple #[.int .i64 (takeP l).1, .int .i64 (takeP l).2]) ∧ w = w' := by
  unfold str
  obtain ⟨s, hss⟩ : ∃ s, s = (⟨l.toArray⟩ : ByteArray) := ⟨_, rfl⟩
  have GET := Lib.hid (fun k (hk : k < l.length) h => mk_byte hss k hk h)
  have hs : s.size = l.length := by rw [hss]; exact mk_size l
  rw [← hss]
  clear hss
  have hsz : s.size ≤ 1000000 := by omega
  have HS := Lib.hid hs
  clear hs
  go_enter Try.func30, Try.ntmps30
  go_wp2_with fail
  go_loop [4, 5] (fun v4 v5 => ∃ (i acc : Nat), i ≤ 7 ∧ i ≤ s.size ∧ v5 = .int .i64 i ∧ v4 = .int .i64 acc ∧ acc < 2 ^ (7 * i) ∧ rdF 7 0 0 l = rdF (7 - i) i acc (l.drop i)) (fun _ v5 => 7 - (intOf v5).toNat)
  case atStart => exact ⟨0, 0, by omega, by omega, rfl, rfl, by decide, rfl⟩
  case round =>
    obtain ⟨i, acc, hi, his, rfl, rfl, hacc, heq⟩ := hrel
    have HE := Lib.hid heq
    clear heq
    by_cases hlt : i < s.size
    · have t1 : decide (i < s.size) = true := by simp; omega
      by_cases h7 : i < 7
      · have t2 : decide ((i : Int) < 7) = true := by simp; omega
        have hil : i < l.length := by have := HS.out; omega
        have gc := GET.out i hil hlt
        have HD := Lib.hid (List.drop_eq_getElem_cons hil)
        generalize hc : l[i] = c at *
        clear hc
        have hc := UInt8.toNat_lt c
        obtain ⟨SUM, SB1, SB2⟩ := rdF_sum (c := c.toNat) h7 hacc
        have HL := Lib.hid (fun h => rdF_last (g := 7 - (i + 1)) (i := i) (acc := acc) (c := c) (r := l.drop (i + 1)) h)
        have HM := Lib.hid (fun h => rdF_more (g := 7 - (i + 1)) (i := i) (acc := acc) (c := c) (r := l.drop (i + 1)) h)
        have H7 := Lib.hid (show 7 - i = (7 - (i + 1)) + 1 from by omega)
        generalize acc + c.toNat % 128 * 2 ^ (7 * i) = m at *
        by_cases h128 : c.toNat < 128
        · have t3 : decide ((c.toNat : Int) < 128) = true := by simp; omega
          have HR := Lib.hid (show rdF 7 0 0 l = if 0 < i ∧ c.toNat = 0 then none else some (m, l.drop (i + 1)) from by rw [HE.out, HD.out, H7.out]; exact HL.out h128)
          have WC := Lib.hid (within_c (m : Int) w)
          by_cases hm : m ≤ most
          · rw [inB_ok hm] at WC
            by_cases h0 : 0 < i
            · have t4 : decide (0 < i) = true := by simp; omega
              by_cases hc0 : c.toNat = 0
              · have t5 : ((c.toNat : Int) == 0) = true := by rw [hc0]; rfl
                have TX := Lib.hid (take_none (l := l) (fun n r h => by rw [HR.out, if_pos ⟨h0, hc0⟩] at h; cases h))
                clear hc0 h128 hm
                go_wp2_with fail
                refine WC.out.mono ?_; rintro e w1 ⟨rfl, rfl⟩
                go_wp2_with fail
                go_returns
                rw [TX.out]
                exact ⟨rfl, rfl⟩
              · have t5 : ((c.toNat : Int) == 0) = false := by rw [beq_eq_false_iff_ne]; omega
                have TX := Lib.hid (take_some (l := l) (by rw [HR.out, if_neg (fun h => hc0 h.2)]) hil hm)
                clear hc0 h128 hm
                go_wp2_with fail
                refine WC.out.mono ?_; rintro e w1 ⟨rfl, rfl⟩
                go_wp2_with fail
                go_returns
                rw [TX.out]
                exact ⟨rfl, rfl⟩
            · have t4 : decide (0 < i) = false := by simp; omega
              have TX := Lib.hid (take_some (l := l) (by rw [HR.out, if_neg (fun h => h0 h.1)]) hil hm)
              clear h128 hm
              go_wp2_with fail
              refine WC.out.mono ?_; rintro e w1 ⟨rfl, rfl⟩
              go_wp2_with fail
              go_returns
              rw [TX.out]
              exact ⟨rfl, rfl⟩
          · rw [inB_no hm] at WC
            have TX := Lib.hid (take_none (l := l) (fun n r h => by
              rw [HR.out] at h
              split at h
              · cases h
              · injection h with h; injection h with h1 _; omega))
            clear h128 hm
            go_wp2_with fail
            refine WC.out.mono ?_; rintro e w1 ⟨rfl, rfl⟩
            go_wp2_with fail
            go_returns
            rw [TX.out]
            exact ⟨rfl, rfl⟩
        · have t3 : decide ((c.toNat : Int) < 128) = false := by simp; omega
          have HX := Lib.hid (show rdF 7 0 0 l = rdF (7 - (i + 1)) (i + 1) m (l.drop (i + 1)) from by rw [HE.out, HD.out, H7.out]; exact HM.out h128)
          clear h128
          go_wp2_with fail
          go_round
          case rel => exact ⟨i + 1, m, by omega, by omega, by go_num, by rw [SUM], SB1, HX.out⟩
          case measure => simp [intOf]; omega
      · have e : i = 7 := by omega
        have t2 : decide ((i : Int) < 7) = false := by simp; omega
        have TX := Lib.hid (take_none (l := l) (fun n r h => by rw [HE.out, e] at h; cases h))
        clear e
        go_wp2_with fail
        go_returns
        rw [TX.out]
        exact ⟨rfl, rfl⟩
    · have t1 : decide (i < s.size) = false := by simp; omega
      have TX := Lib.hid (take_none (l := l) (fun n r h => by
        rw [HE.out, List.drop_eq_nil_of_le (by have := HS.out; omega)] at h
        cases hf : 7 - i with
        | zero => rw [hf] at h; cases h
        | succ f => rw [hf] at h; cases h))
      go_wp2_with fail
      go_returns
      rw [TX.out]
      exact ⟨rfl, rfl⟩
end Go.Proofs.Ytgcjfjmnccajeaa
