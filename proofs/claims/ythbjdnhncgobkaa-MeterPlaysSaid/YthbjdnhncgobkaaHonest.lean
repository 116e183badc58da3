/- The walk of MeterHonest. -/
import Derived.Test.YthbjdnhncgobkaaMeterLaws
import Derived.LoopTactic
namespace Go.Proofs.Ythbjdnhncgobkaa
open Go.RowKit
/-- What a meter is behind a call of kind K at n. -/
def Mt.op (m : Mt) (K n : Int) : Mt := if K = 1 then (m.take n).1 else if K = 2 then (m.give n).1 else if K = 3 then (m.step n).1 else if K = 4 then m.begin n else m
theorem Mt.op_ok {m : Mt} (h : m.ok) (K n : Int) : (m.op K n).ok := by
  unfold Mt.op; (repeat' split)
  · exact Mt.take_ok h n
  · exact Mt.give_ok h n
  · exact Mt.step_ok h n
  · exact Mt.begin_ok h n
  · exact h
def Mt.plays (m : Mt) (X : Nat → Nat → Int) : Nat → Mt
  | 0 => m
  | k + 1 => (m.plays X k).op (X k 0) (X k 1)
theorem Mt.plays_ok {m : Mt} (h : m.ok) (X : Nat → Nat → Int) : ∀ k, (m.plays X k).ok
  | 0 => h
  | k + 1 => Mt.op_ok (Mt.plays_ok h X k) _ _
theorem Mt.plays_succ {m0 m : Mt} {X : Nat → Nat → Int} {k : Nat} (h : m0.plays X k = m) : m0.plays X (k + 1) = m.op (X k 0) (X k 1) := by rw [← h]; rfl
theorem Mt.op1 (m : Mt) (n : Int) : m.op 1 n = (m.take n).1 := rfl
theorem Mt.op2 (m : Mt) (n : Int) : m.op 2 n = (m.give n).1 := rfl
theorem Mt.op3 (m : Mt) (n : Int) : m.op 3 n = (m.step n).1 := rfl
theorem Mt.op4 (m : Mt) (n : Int) : m.op 4 n = m.begin n := rfl
/-- What a taking comes to. -/
theorem Mt.take_ways (m : Mt) (n : Int) : (∃ m', m.take n = (m', false) ∧ m'.used = m.used ∧ m'.most = m.most ∧ m'.cells = m.cells ∧ m'.done = m.done ∧ m'.steps = m.steps) ∨
    (0 ≤ n ∧ n ≤ m.cells - m.used ∧ ∃ q, m.take n = (⟨m.used + n, q, m.cells, m.done, m.steps, m.e⟩, true) ∧ (if m.most < m.used + n then m.used + n else m.most) = q) := by
  unfold Mt.take
  split
  · exact .inl ⟨m, rfl, rfl, rfl, rfl, rfl, rfl⟩
  · split
    · refine .inl ⟨m.refuse 3, rfl, ?_⟩
      unfold Mt.refuse; split <;> exact ⟨rfl, rfl, rfl, rfl, rfl⟩
    · exact .inr ⟨by omega, by omega, _, rfl, rfl⟩
theorem Mt.give_ways (m : Mt) (n : Int) : (∃ m', m.give n = (m', false) ∧ m'.used = m.used ∧ m'.most = m.most ∧ m'.cells = m.cells ∧ m'.done = m.done ∧ m'.steps = m.steps) ∨
    (0 ≤ n ∧ n ≤ m.used ∧ m.give n = (⟨m.used - n, m.most, m.cells, m.done, m.steps, m.e⟩, true)) := by
  unfold Mt.give
  split
  · exact .inl ⟨m, rfl, rfl, rfl, rfl, rfl, rfl⟩
  · exact .inr ⟨by omega, by omega, rfl⟩
theorem Mt.step_ways (m : Mt) (n : Int) : (∃ m', m.step n = (m', false) ∧ m'.used = m.used ∧ m'.most = m.most ∧ m'.cells = m.cells ∧ m'.done = m.done ∧ m'.steps = m.steps) ∨
    (0 ≤ n ∧ n ≤ m.steps - m.done ∧ m.step n = (⟨m.used, m.most, m.cells, m.done + n, m.steps, m.e⟩, true)) := by
  unfold Mt.step
  split
  · exact .inl ⟨m, rfl, rfl, rfl, rfl, rfl, rfl⟩
  · split
    · refine .inl ⟨m.refuse 4, rfl, ?_⟩
      unfold Mt.refuse; split <;> exact ⟨rfl, rfl, rfl, rfl, rfl⟩
    · exact .inr ⟨by omega, by omega, rfl⟩
theorem num_eq {a b : Int} (h : a = b) : Value.int .i64 a = .int .i64 b := by rw [h]
set_option maxHeartbeats 4000000 in
set_option maxRecDepth 100000 in
theorem honest_pos (c s : Int) (b o len cap : Nat) (X : Nat → Nat → Int) (w : World) (hl : 0 < len) (hl0 : len ≤ 500) (hb : b < w.heap.size)
    (hA : ∀ i, i < len → ∀ j, j < 2 → w.cell? ⟨b, o + (i * 2 + j), none⟩ = some (.int .i64 (X i j)))
    (hX : ∀ i, i < len → ∀ j, j < 2 → (Lit.int .i64 (X i j)).wf = true) :
    Calls Try.prog 4 #[.int .i64 c, .int .i64 s, .slice (some ⟨b, o, none⟩) len cap] w fun e w' => e = .returned (.bool true) ∧ Below w.heap.size w w' := by
  have HA := Lib.hid hA
  have HX := Lib.hid hX
  have HB := Lib.hid hb
  clear hA hX hb
  go_enter Try.func4, Try.ntmps4
  go_wp2_with fail
  refine (awake_c _).mono ?_; rintro e w1 ⟨rfl, k1⟩
  go_wp2_with fail
  refine (new_c _ _ _).mono ?_; rintro e w2 ⟨rfl, hw2⟩
  have h2 : MtAt w2 w1.heap.size (Mt.new c s) := by rw [hw2]; exact Blk.made _ _ _
  have K1 := Lib.hid k1.size
  have K2 := Lib.hid (show Below w.heap.size w w2 by rw [hw2]; exact below_alloc k1 _)
  have H2 := Lib.hid h2
  clear hw2 k1 h2
  obtain ⟨mb, hmb⟩ : ∃ mb, w1.heap.size = mb := ⟨_, rfl⟩
  rw [hmb] at H2 K1 ⊢
  clear hmb
  go_wp2_with fail
  go_loopw [8, 9, 10, 31] (fun u d mo i wr => ∃ k : Nat, k ≤ len ∧ i = .int .i64 k ∧ u = .int .i64 ((Mt.new c s).plays X k).used ∧ d = .int .i64 ((Mt.new c s).plays X k).done ∧ mo = .int .i64 ((Mt.new c s).plays X k).most ∧ MtAt wr mb ((Mt.new c s).plays X k) ∧ Only [mb] w wr) (fun _ _ _ i _ => len - (intOf i).toNat)
  case atStart => exact ⟨0, by omega, rfl, rfl, rfl, rfl, H2.out, Only.ofBelow _ K2.out⟩
  case round =>
    obtain ⟨k, hk, rfl, rfl, rfl, rfl, hm, ho⟩ := hrel
    have hok := Mt.plays_ok (Mt.new_ok c s) X k
    obtain ⟨m, S0⟩ : ∃ m, (Mt.new c s).plays X k = m := ⟨_, rfl⟩
    rw [S0] at hm hok ⊢
    have S1 := Lib.hid (Mt.plays_succ S0)
    clear S0
    obtain ⟨b1, b2, b3, b4, b5, b6, b7, b8⟩ := hok
    have OK := Lib.hid (show m.ok from ⟨b1, b2, b3, b4, b5, b6, b7, b8⟩)
    have HO := Lib.hid ho
    have HM := Lib.hid hm
    by_cases hlt : k < len
    · have hw0 := HX.out k hlt 0 (by omega)
      have hw1 := HX.out k hlt 1 (by omega)
      have hne : b ∉ [mb] := by have := HB.out; have := K1.out; simp; omega
      have hc0 : wr.cell? ⟨b, o + k * 2, none⟩ = some (.int .i64 (X k 0)) := (ho.cell (p := ⟨b, o + k * 2, none⟩) HB.out hne).trans (HA.out k hlt 0 (by omega))
      have hc1 : wr.cell? ⟨b, o + k * 2 + 1, none⟩ = some (.int .i64 (X k 1)) := (ho.cell (p := ⟨b, o + k * 2 + 1, none⟩) HB.out hne).trans (HA.out k hlt 1 (by omega))
      obtain ⟨K, hK⟩ : ∃ K, X k 0 = K := ⟨_, rfl⟩
      obtain ⟨n, hn⟩ : ∃ n, X k 1 = n := ⟨_, rfl⟩
      rw [hK, hn] at S1
      rw [hK] at hc0 hw0
      rw [hn] at hc1 hw1
      clear hK hn ho hm hne
      have bn := bounds_i64 hw1
      clear hw0 hw1
      obtain ⟨n1, n2⟩ := bn
      have hmlt := HM.out.lt
      by_cases hK1 : K = 1
      · subst hK1
        rcases Mt.take_ways m n with ⟨m', E, q1, q2, q3, q4, q5⟩ | ⟨g1, g2, q, E, hq⟩
        · have R4 := Lib.hid (show m' = m.op 1 n by rw [Mt.op1, E])
          have E' := Lib.hid E
          clear E
          have hmx : (if m.most < m.used then m.used else m.most) = m.most := by rw [if_neg (by omega)]
          go_wp2_with fail
          refine (take_r E'.out OK.out (Blk.alloc HM.out _)).mono ?_; rintro e w4 ⟨rfl, h4, o4⟩
          have hbx : w4.cell? ⟨wr.heap.size, 1, none⟩ = some (.int .i64 n) := (o4.cell (p := ⟨wr.heap.size, 1, none⟩) (by simp) (by simp; omega)).trans (by simp)
          have hbx0 : w4.cell? ⟨wr.heap.size, 0, none⟩ = some (.int .i64 1) := (o4.cell (p := ⟨wr.heap.size, 0, none⟩) (by simp) (by simp; omega)).trans (by simp)
          have O4 := Lib.hid ((HO.out.alloc _).trans o4)
          have QQ := Lib.hid (And.intro q1 (And.intro q2 q4))
          clear o4
          go_wp2_with fail
          refine (cells_c _ _ _ h4).mono ?_; rintro e w' ⟨rfl, rfl⟩
          go_wp2_with fail
          refine (steps_c _ _ _ h4.drew).mono ?_; rintro e w' ⟨rfl, rfl⟩
          go_wp2_with fail
          go_roundw
          case rel => exact ⟨k + 1, by omega, by go_num, num_eq (by rw [S1.out, ← R4.out]; exact QQ.out.1.symm), num_eq (by rw [S1.out, ← R4.out]; exact QQ.out.2.2.symm), num_eq (by rw [S1.out, ← R4.out]; exact QQ.out.2.1.symm), by rw [S1.out]; exact R4.out ▸ h4.drew.drew, O4.out.drew.drew⟩
          case measure => simp [intOf]; omega
        · have R4 := Lib.hid (show (⟨m.used + n, q, m.cells, m.done, m.steps, m.e⟩ : Mt) = m.op 1 n by rw [Mt.op1, E])
          have E' := Lib.hid E
          clear E
          go_wp2_with fail
          refine (take_r E'.out OK.out (Blk.alloc HM.out _)).mono ?_; rintro e w4 ⟨rfl, h4, o4⟩
          have hbx : w4.cell? ⟨wr.heap.size, 1, none⟩ = some (.int .i64 n) := (o4.cell (p := ⟨wr.heap.size, 1, none⟩) (by simp) (by simp; omega)).trans (by simp)
          have hbx0 : w4.cell? ⟨wr.heap.size, 0, none⟩ = some (.int .i64 1) := (o4.cell (p := ⟨wr.heap.size, 0, none⟩) (by simp) (by simp; omega)).trans (by simp)
          have O4 := Lib.hid ((HO.out.alloc _).trans o4)
          clear o4
          go_wp2_with fail
          refine (cells_c _ _ _ h4).mono ?_; rintro e w' ⟨rfl, rfl⟩
          go_wp2_with fail
          refine (steps_c _ _ _ h4.drew).mono ?_; rintro e w' ⟨rfl, rfl⟩
          go_wp2_with fail
          go_roundw
          case rel => exact ⟨k + 1, by omega, by go_num, num_eq (by rw [S1.out, ← R4.out]), num_eq (by rw [S1.out, ← R4.out]), num_eq (by rw [S1.out, ← R4.out]), by rw [S1.out]; exact R4.out ▸ h4.drew.drew, O4.out.drew.drew⟩
          case measure => simp [intOf]; omega
      · have k1 : (K == 1) = false := beq_eq_false_iff_ne.mpr hK1
        by_cases hK2 : K = 2
        · subst hK2
          clear k1 hK1
          rcases Mt.give_ways m n with ⟨m', E, q1, q2, q3, q4, q5⟩ | ⟨g1, g2, E⟩
          · have R4 := Lib.hid (show m' = m.op 2 n by rw [Mt.op2, E])
            have E' := Lib.hid E
            clear E
            have hmx : (if m.most < m.used then m.used else m.most) = m.most := by rw [if_neg (by omega)]
            go_wp2_with fail
            refine (give_r E'.out OK.out (Blk.alloc HM.out _)).mono ?_; rintro e w4 ⟨rfl, h4, o4⟩
            have hbx : w4.cell? ⟨wr.heap.size, 1, none⟩ = some (.int .i64 n) := (o4.cell (p := ⟨wr.heap.size, 1, none⟩) (by simp) (by simp; omega)).trans (by simp)
            have hbx0 : w4.cell? ⟨wr.heap.size, 0, none⟩ = some (.int .i64 2) := (o4.cell (p := ⟨wr.heap.size, 0, none⟩) (by simp) (by simp; omega)).trans (by simp)
            have O4 := Lib.hid ((HO.out.alloc _).trans o4)
            have QQ := Lib.hid (And.intro q1 (And.intro q2 q4))
            clear o4
            go_wp2_with fail
            refine (cells_c _ _ _ h4).mono ?_; rintro e w' ⟨rfl, rfl⟩
            go_wp2_with fail
            refine (steps_c _ _ _ h4.drew).mono ?_; rintro e w' ⟨rfl, rfl⟩
            go_wp2_with fail
            go_roundw
            case rel => exact ⟨k + 1, by omega, by go_num, num_eq (by rw [S1.out, ← R4.out]; exact QQ.out.1.symm), num_eq (by rw [S1.out, ← R4.out]; exact QQ.out.2.2.symm), num_eq (by rw [S1.out, ← R4.out]; exact QQ.out.2.1.symm), by rw [S1.out]; exact R4.out ▸ h4.drew.drew, O4.out.drew.drew⟩
            case measure => simp [intOf]; omega
          · have R4 := Lib.hid (show (⟨m.used - n, m.most, m.cells, m.done, m.steps, m.e⟩ : Mt) = m.op 2 n by rw [Mt.op2, E])
            have E' := Lib.hid E
            clear E
            have hmx : (if m.most < m.used - n then m.used - n else m.most) = m.most := by rw [if_neg (by omega)]
            go_wp2_with fail
            refine (give_r E'.out OK.out (Blk.alloc HM.out _)).mono ?_; rintro e w4 ⟨rfl, h4, o4⟩
            have hbx : w4.cell? ⟨wr.heap.size, 1, none⟩ = some (.int .i64 n) := (o4.cell (p := ⟨wr.heap.size, 1, none⟩) (by simp) (by simp; omega)).trans (by simp)
            have hbx0 : w4.cell? ⟨wr.heap.size, 0, none⟩ = some (.int .i64 2) := (o4.cell (p := ⟨wr.heap.size, 0, none⟩) (by simp) (by simp; omega)).trans (by simp)
            have O4 := Lib.hid ((HO.out.alloc _).trans o4)
            clear o4
            go_wp2_with fail
            refine (cells_c _ _ _ h4).mono ?_; rintro e w' ⟨rfl, rfl⟩
            go_wp2_with fail
            refine (steps_c _ _ _ h4.drew).mono ?_; rintro e w' ⟨rfl, rfl⟩
            go_wp2_with fail
            go_roundw
            case rel => exact ⟨k + 1, by omega, by go_num, num_eq (by rw [S1.out, ← R4.out]), num_eq (by rw [S1.out, ← R4.out]), num_eq (by rw [S1.out, ← R4.out]), by rw [S1.out]; exact R4.out ▸ h4.drew.drew, O4.out.drew.drew⟩
            case measure => simp [intOf]; omega
        · have k2 : (K == 2) = false := beq_eq_false_iff_ne.mpr hK2
          by_cases hK3 : K = 3
          · subst hK3
            clear k1 k2 hK1 hK2
            rcases Mt.step_ways m n with ⟨m', E, q1, q2, q3, q4, q5⟩ | ⟨g1, g2, E⟩
            · have R4 := Lib.hid (show m' = m.op 3 n by rw [Mt.op3, E])
              have E' := Lib.hid E
              clear E
              have hmx : (if m.most < m.used then m.used else m.most) = m.most := by rw [if_neg (by omega)]
              go_wp2_with fail
              refine (step_r E'.out OK.out (Blk.alloc HM.out _)).mono ?_; rintro e w4 ⟨rfl, h4, o4⟩
              have hbx : w4.cell? ⟨wr.heap.size, 1, none⟩ = some (.int .i64 n) := (o4.cell (p := ⟨wr.heap.size, 1, none⟩) (by simp) (by simp; omega)).trans (by simp)
              have hbx0 : w4.cell? ⟨wr.heap.size, 0, none⟩ = some (.int .i64 3) := (o4.cell (p := ⟨wr.heap.size, 0, none⟩) (by simp) (by simp; omega)).trans (by simp)
              have O4 := Lib.hid ((HO.out.alloc _).trans o4)
              have QQ := Lib.hid (And.intro q1 (And.intro q2 q4))
              clear o4
              go_wp2_with fail
              refine (cells_c _ _ _ h4).mono ?_; rintro e w' ⟨rfl, rfl⟩
              go_wp2_with fail
              refine (steps_c _ _ _ h4.drew).mono ?_; rintro e w' ⟨rfl, rfl⟩
              go_wp2_with fail
              go_roundw
              case rel => exact ⟨k + 1, by omega, by go_num, num_eq (by rw [S1.out, ← R4.out]; exact QQ.out.1.symm), num_eq (by rw [S1.out, ← R4.out]; exact QQ.out.2.2.symm), num_eq (by rw [S1.out, ← R4.out]; exact QQ.out.2.1.symm), by rw [S1.out]; exact R4.out ▸ h4.drew.drew, O4.out.drew.drew⟩
              case measure => simp [intOf]; omega
            · have R4 := Lib.hid (show (⟨m.used, m.most, m.cells, m.done + n, m.steps, m.e⟩ : Mt) = m.op 3 n by rw [Mt.op3, E])
              have E' := Lib.hid E
              clear E
              have hmx : (if m.most < m.used then m.used else m.most) = m.most := by rw [if_neg (by omega)]
              go_wp2_with fail
              refine (step_r E'.out OK.out (Blk.alloc HM.out _)).mono ?_; rintro e w4 ⟨rfl, h4, o4⟩
              have hbx : w4.cell? ⟨wr.heap.size, 1, none⟩ = some (.int .i64 n) := (o4.cell (p := ⟨wr.heap.size, 1, none⟩) (by simp) (by simp; omega)).trans (by simp)
              have hbx0 : w4.cell? ⟨wr.heap.size, 0, none⟩ = some (.int .i64 3) := (o4.cell (p := ⟨wr.heap.size, 0, none⟩) (by simp) (by simp; omega)).trans (by simp)
              have O4 := Lib.hid ((HO.out.alloc _).trans o4)
              clear o4
              go_wp2_with fail
              refine (cells_c _ _ _ h4).mono ?_; rintro e w' ⟨rfl, rfl⟩
              go_wp2_with fail
              refine (steps_c _ _ _ h4.drew).mono ?_; rintro e w' ⟨rfl, rfl⟩
              go_wp2_with fail
              go_roundw
              case rel => exact ⟨k + 1, by omega, by go_num, num_eq (by rw [S1.out, ← R4.out]), num_eq (by rw [S1.out, ← R4.out]), num_eq (by rw [S1.out, ← R4.out]), by rw [S1.out]; exact R4.out ▸ h4.drew.drew, O4.out.drew.drew⟩
              case measure => simp [intOf]; omega
          · have k3 : (K == 3) = false := beq_eq_false_iff_ne.mpr hK3
            by_cases hK4 : K = 4
            · subst hK4
              clear k1 k2 k3 hK1 hK2 hK3
              have R4 := Lib.hid (show m.begin n = m.op 4 n from rfl)
              have hbt := betw_bd n (k := 1073741824) (by omega)
              obtain ⟨hbt1, hbt2⟩ := hbt
              have hmx : (if m.most < m.used then m.used else m.most) = m.most := by rw [if_neg (by omega)]
              go_wp2_with fail
              refine (begin_c m n mb _ (Blk.alloc HM.out _)).mono ?_; rintro e w4 ⟨rfl, h4, o4⟩
              have h4 : MtAt w4 mb ⟨m.used, m.most, m.cells, 0, betw n 1073741824, 0⟩ := h4
              have O4 := Lib.hid ((HO.out.alloc _).trans o4)
              clear o4
              go_wp2_with fail
              refine (cells_c _ _ _ h4).mono ?_; rintro e w' ⟨rfl, rfl⟩
              go_wp2_with fail
              refine (steps_c _ _ _ h4.drew).mono ?_; rintro e w' ⟨rfl, rfl⟩
              go_wp2_with fail
              go_roundw
              case rel => exact ⟨k + 1, by omega, by go_num, num_eq (by rw [S1.out]; rfl), num_eq (by rw [S1.out]; rfl), num_eq (by rw [S1.out]; rfl), by rw [S1.out]; exact R4.out ▸ h4.drew.drew, O4.out.drew.drew⟩
              case measure => simp [intOf]; omega
            · have k4 : (K == 4) = false := beq_eq_false_iff_ne.mpr hK4
              have R4 := Lib.hid (show m = m.op K n by unfold Mt.op; rw [if_neg hK1, if_neg hK2, if_neg hK3, if_neg hK4])
              clear hK1 hK2 hK3 hK4
              have hmx : (if m.most < m.used then m.used else m.most) = m.most := by rw [if_neg (by omega)]
              have h4 := HM.out
              have O4 := HO
              go_wp2_with fail
              refine (cells_c _ _ _ (Blk.alloc HM.out _)).mono ?_; rintro e w' ⟨rfl, rfl⟩
              go_wp2_with fail
              refine (steps_c _ _ _ (Blk.drew (Blk.alloc HM.out _))).mono ?_; rintro e w' ⟨rfl, rfl⟩
              go_wp2_with fail
              go_roundw
              case rel => exact ⟨k + 1, by omega, by go_num, num_eq (by rw [S1.out, ← R4.out]), num_eq (by rw [S1.out, ← R4.out]), num_eq (by rw [S1.out, ← R4.out]), by rw [S1.out, ← R4.out]; exact Blk.drew (Blk.drew (Blk.alloc HM.out _)), ((HO.out.alloc _).drew).drew⟩
              case measure => simp [intOf]; omega
    · go_wp2_with fail
      go_ret
      exact ⟨rfl, HO.out.below (by have := K1.out; simp; omega)⟩
end Go.Proofs.Ythbjdnhncgobkaa
