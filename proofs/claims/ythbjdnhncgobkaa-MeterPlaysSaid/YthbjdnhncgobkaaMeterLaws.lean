/- The walks of three laws of layer 1, and of what the document fixes. -/
import Derived.Test.YthbjdnhncgobkaaMeter

namespace Go.Proofs.Ythbjdnhncgobkaa
open Go.RowKit
theorem mt_ok {u m c d s e : Int} (h : 0 ≤ u ∧ u ≤ c ∧ u ≤ m ∧ m ≤ c ∧ c ≤ 1048576 ∧ 0 ≤ d ∧ d ≤ s ∧ s ≤ 1073741824) : (Mt.mk u m c d s e).ok := ⟨h.1, h.2.1, h.2.2.1, h.2.2.2.1, h.2.2.2.2.1, h.2.2.2.2.2.1, h.2.2.2.2.2.2.1, h.2.2.2.2.2.2.2⟩
theorem awake_c (w : World) : Calls Try.prog 8 #[] w fun e w' => e = .returned (.bool true) ∧ Below w.heap.size w w' := by
  go_enter Try.func8, Try.ntmps8
  go_wp2_with fail
  refine (new_c _ _ _).mono ?_; rintro e w0 ⟨rfl, hw0⟩
  have h0 : MtAt w0 w.heap.size ⟨0, 0, 10, 0, 5, 0⟩ := by rw [hw0]; exact Blk.made _ _ _
  have k0 : Below w.heap.size w w0 := by rw [hw0]; exact below_alloc (Below.refl _ _) _
  clear hw0
  have K0 := Lib.hid k0
  clear k0
  go_wp2_with fail
  refine (take_r (m' := ⟨7, 7, 10, 0, 5, 0⟩) (r := true) rfl (mt_ok (by decide)) h0).mono ?_; rintro e w1 ⟨rfl, h1, o1⟩
  go_wp2_with fail
  refine (take_r (m' := ⟨7, 7, 10, 0, 5, 3⟩) (r := false) rfl (mt_ok (by decide)) h1).mono ?_; rintro e w2 ⟨rfl, h2, o2⟩
  go_wp2_with fail
  refine (err_c _ _ _ h2).mono ?_; rintro e w' ⟨rfl, rfl⟩
  go_wp2_with fail
  refine (give_r (m' := ⟨0, 7, 10, 0, 5, 3⟩) (r := true) rfl (mt_ok (by decide)) h2).mono ?_; rintro e w3 ⟨rfl, h3, o3⟩
  go_wp2_with fail
  refine (take_r (m' := ⟨4, 7, 10, 0, 5, 3⟩) (r := true) rfl (mt_ok (by decide)) h3).mono ?_; rintro e w4 ⟨rfl, h4, o4⟩
  go_wp2_with fail
  refine (cells_c _ _ _ h4).mono ?_; rintro e w' ⟨rfl, rfl⟩
  go_wp2_with fail
  refine (step_r (m' := ⟨4, 7, 10, 5, 5, 3⟩) (r := true) rfl (mt_ok (by decide)) h4.drew).mono ?_; rintro e w5 ⟨rfl, h5, o5⟩
  go_wp2_with fail
  refine (step_r (m' := ⟨4, 7, 10, 5, 5, 3⟩) (r := false) rfl (mt_ok (by decide)) h5).mono ?_; rintro e w6 ⟨rfl, h6, o6⟩
  go_wp2_with fail
  refine (steps_c _ _ _ h6).mono ?_; rintro e w' ⟨rfl, rfl⟩
  go_wp2_with fail
  refine (begin_c _ 9 _ _ h6.drew).mono ?_; rintro e w7 ⟨rfl, h7, o7⟩
  go_wp2_with fail
  refine (err_c _ _ _ h7).mono ?_; rintro e w' ⟨rfl, rfl⟩
  go_wp2_with fail
  refine (step_r (m' := ⟨4, 7, 10, 9, 9, 0⟩) (r := true) rfl (mt_ok (by decide)) h7).mono ?_; rintro e w8 ⟨rfl, h8, o8⟩
  go_wp2_with fail
  go_ret
  refine ⟨rfl, ?_⟩
  have q : Only [w.heap.size] w0 w8 := ((((((((((Only.refl _ _).trans o1).trans o2).trans o3).trans o4).drew).trans o5).trans o6).drew).trans o7).trans o8
  exact ((Only.ofBelow [w.heap.size] K0.out).trans q).below (by simp)
theorem nil_c (n : Int) (w : World) : Calls Try.prog 5 #[.int .i64 n] w fun e w' => e = .returned (.bool true) ∧ Below w.heap.size w w' := by
  go_enter Try.func5, Try.ntmps5
  go_wp2_with (first | (go_at_call 17; refine (begin_nil _ _).mono ?_; rintro e w' ⟨rfl, rfl⟩) | (go_at_call 19; refine (cells_nil _).mono ?_; rintro e w' ⟨rfl, rfl⟩) | (go_at_call 20; refine (steps_nil _).mono ?_; rintro e w' ⟨rfl, rfl⟩) | (go_at_call 11; refine (take_nil _ _).mono ?_; rintro e w' ⟨rfl, rfl⟩) | (go_at_call 13; refine (give_nil _ _).mono ?_; rintro e w' ⟨rfl, rfl⟩) | (go_at_call 15; refine (step_nil _ _).mono ?_; rintro e w' ⟨rfl, rfl⟩) | (go_at_call 21; refine (err_nil _).mono ?_; rintro e w' ⟨rfl, rfl⟩) | (go_at_call 8; refine (awake_c _).mono ?_; rintro e w1 ⟨rfl, hb⟩))
  go_ret
  exact ⟨rfl, hb⟩
/-- Two meters with the same room. -/
def Mt.like (m m' : Mt) : Prop := m'.used = m.used ∧ m'.cells = m.cells ∧ m'.done = m.done ∧ m'.steps = m.steps
theorem refuse_like (m : Mt) (e : Int) : m.like (m.refuse e) := by unfold Mt.refuse Mt.like; split <;> exact ⟨rfl, rfl, rfl, rfl⟩
theorem take_no {m : Mt} (hm : m.ok) {n : Int} (h0 : 0 ≤ n) (h1 : m.cells - m.used < n) {b : Nat} {w : World} (h : MtAt w b m) : Calls Try.prog 11 #[.pointer (some ⟨b, 0, none⟩), .int .i64 n] w fun x w' => x = .returned (.bool false) ∧ ∃ m', m'.ok ∧ m.like m' ∧ MtAt w' b m' ∧ Only [b] w w' :=
  (take_r (show m.take n = (m.refuse 3, false) by unfold Mt.take; rw [if_neg (by omega), if_pos h1]) hm h).mono fun _ _ k => ⟨k.1, _, Mt.refuse_ok hm 3, refuse_like m 3, k.2⟩
theorem step_no {m : Mt} (hm : m.ok) {n : Int} (h0 : 0 ≤ n) (h1 : m.steps - m.done < n) {b : Nat} {w : World} (h : MtAt w b m) : Calls Try.prog 15 #[.pointer (some ⟨b, 0, none⟩), .int .i64 n] w fun x w' => x = .returned (.bool false) ∧ ∃ m', m'.ok ∧ m.like m' ∧ MtAt w' b m' ∧ Only [b] w w' :=
  (step_r (show m.step n = (m.refuse 4, false) by unfold Mt.step; rw [if_neg (by omega), if_pos h1]) hm h).mono fun _ _ k => ⟨k.1, _, Mt.refuse_ok hm 4, refuse_like m 4, k.2⟩
def Mt.took (m m' : Mt) (n d : Int) : Prop := m'.used = m.used + n ∧ m'.cells = m.cells ∧ m'.done = m.done + d ∧ m'.steps = m.steps
theorem take_yes {m : Mt} (hm : m.ok) {n : Int} (h0 : 0 ≤ n) (h1 : n ≤ m.cells - m.used) {b : Nat} {w : World} (h : MtAt w b m) : Calls Try.prog 11 #[.pointer (some ⟨b, 0, none⟩), .int .i64 n] w fun x w' => x = .returned (.bool true) ∧ ∃ m', m'.ok ∧ m.took m' n 0 ∧ MtAt w' b m' ∧ Only [b] w w' := by
  have e : m.take n = ((m.take n).1, true) := by unfold Mt.take; rw [if_neg (by omega), if_neg (by omega)]
  have t : m.took (m.take n).1 n 0 := by unfold Mt.take; rw [if_neg (by omega), if_neg (by omega)]; exact ⟨rfl, rfl, by simp, rfl⟩
  exact (take_r e hm h).mono fun _ _ k => ⟨k.1, _, Mt.take_ok hm n, t, k.2⟩
theorem step_yes {m : Mt} (hm : m.ok) {n : Int} (h0 : 0 ≤ n) (h1 : n ≤ m.steps - m.done) {b : Nat} {w : World} (h : MtAt w b m) : Calls Try.prog 15 #[.pointer (some ⟨b, 0, none⟩), .int .i64 n] w fun x w' => x = .returned (.bool true) ∧ ∃ m', m'.ok ∧ m.took m' 0 n ∧ MtAt w' b m' ∧ Only [b] w w' := by
  have e : m.step n = ((m.step n).1, true) := by unfold Mt.step; rw [if_neg (by omega), if_neg (by omega)]
  have t : m.took (m.step n).1 0 n := by unfold Mt.step; rw [if_neg (by omega), if_neg (by omega)]; exact ⟨by simp, rfl, rfl, rfl⟩
  exact (step_r e hm h).mono fun _ _ k => ⟨k.1, _, Mt.step_ok hm n, t, k.2⟩
set_option maxHeartbeats 1000000 in
theorem room_c (c s a b : Int) (w : World) : Calls Try.prog 6 #[.int .i64 c, .int .i64 s, .int .i64 a, .int .i64 b] w fun e w' => e = .returned (.bool true) ∧ Below w.heap.size w w' := by
  go_enter Try.func6, Try.ntmps6
  go_wp2_with fail
  refine (new_c _ _ _).mono ?_; rintro e w0 ⟨rfl, hw0⟩
  have h0 : MtAt w0 w.heap.size (Mt.new c s) := by rw [hw0]; exact Blk.made _ _ _
  have K0 := Lib.hid (show Below w.heap.size w w0 by rw [hw0]; exact below_alloc (Below.refl _ _) _)
  clear hw0
  go_wp2_with fail
  refine (take_c _ (Mt.new_ok c s) _ _ _ h0).mono ?_; rintro e w1 ⟨rfl, h1, o1⟩
  go_wp2_with fail
  refine (step_c _ (Mt.take_ok (Mt.new_ok c s) a) _ _ _ h1).mono ?_; rintro e w2 ⟨rfl, h2, o2⟩
  have hm := Mt.step_ok (Mt.take_ok (Mt.new_ok c s) a) b
  obtain ⟨m, hmm⟩ : ∃ m, (((Mt.new c s).take a).1.step b).1 = m := ⟨_, rfl⟩
  rw [hmm] at h2 hm
  clear hmm
  obtain ⟨b1, b2, b3, b4, b5, b6, b7, b8⟩ := hm
  have hm : m.ok := ⟨b1, b2, b3, b4, b5, b6, b7, b8⟩
  go_wp2_with fail
  refine (cells_c _ _ _ h2).mono ?_; rintro e w' ⟨rfl, rfl⟩
  go_wp2_with fail
  refine (steps_c _ _ _ h2.drew).mono ?_; rintro e w' ⟨rfl, rfl⟩
  go_wp2_with fail
  refine (awake_c _).mono ?_; rintro e w3 ⟨rfl, k3⟩
  have h3 : MtAt w3 w.heap.size m := Blk.below h2.drew.drew k3
  go_wp2_with fail
  refine (take_no hm (by omega) (by omega) h3).mono ?_; rintro e w4 ⟨rfl, m4, hm4, l4, h4, o4⟩
  obtain L4 := Lib.hid l4
  clear l4
  go_wp2_with fail
  refine (step_no hm4 (by omega) (by have := L4.out; unfold Mt.like at this; omega) h4).mono ?_; rintro e w5 ⟨rfl, m5, hm5, l5, h5, o5⟩
  have L5 := Lib.hid (show m.like m5 by have := L4.out; unfold Mt.like at *; omega)
  clear l5
  go_wp2_with fail
  refine (take_yes hm5 (by omega) (by have := L5.out; unfold Mt.like at this; omega) h5).mono ?_; rintro e w6 ⟨rfl, m6, hm6, l6, h6, o6⟩
  have L6 := Lib.hid (show m.took m6 (m.cells - m.used) 0 by have := L5.out; unfold Mt.like at this; unfold Mt.took at *; omega)
  clear l6
  go_wp2_with fail
  refine (step_yes hm6 (by omega) (by have := L6.out; unfold Mt.took at this; omega) h6).mono ?_; rintro e w7 ⟨rfl, m7, hm7, l7, h7, o7⟩
  have L7 := Lib.hid (show m7.used = m7.cells ∧ m7.done = m7.steps by have := L6.out; unfold Mt.took at *; omega)
  clear l7
  go_wp2_with fail
  refine (take_no hm7 (by omega) (by have := L7.out; omega) h7).mono ?_; rintro e w8 ⟨rfl, m8, hm8, l8, h8, o8⟩
  have L8 := Lib.hid (show m8.used = m8.cells ∧ m8.done = m8.steps by have := L7.out; unfold Mt.like at *; omega)
  clear l8
  go_wp2_with fail
  refine (step_no hm8 (by omega) (by have := L8.out; omega) h8).mono ?_; rintro e w9 ⟨rfl, m9, hm9, l9, h9, o9⟩
  have L9 := Lib.hid (show m9.used = m9.cells ∧ m9.done = m9.steps by have := L8.out; unfold Mt.like at *; omega)
  clear l9
  go_wp2_with fail
  refine (take_yes hm9 (by omega) (by have := L9.out; omega) h9).mono ?_; rintro e w10 ⟨rfl, m10, hm10, l10, h10, o10⟩
  have L10 := Lib.hid (show m10.used = m10.cells ∧ m10.done = m10.steps by have := L9.out; unfold Mt.took at *; omega)
  clear l10
  go_wp2_with fail
  refine (step_yes hm10 (by omega) (by have := L10.out; omega) h10).mono ?_; rintro e w11 ⟨rfl, m11, hm11, l11, h11, o11⟩
  clear l11
  go_wp2_with fail
  go_ret
  refine ⟨rfl, ?_⟩
  have q : Only [w.heap.size] w0 w11 := ((((((((((((Only.refl _ _).trans o1).trans o2).drew).drew).trans (Only.ofBelow _ k3)).trans o4).trans o5).trans o6).trans o7).trans o8).trans o9).trans o10 |>.trans o11
  exact ((Only.ofBelow [w.heap.size] K0.out).trans q).below (by simp)
theorem take_two {m : Mt} (hm : m.ok) {a b : Int} (ha : 0 ≤ a) (hb : 0 ≤ b) : (m.take (a + b)).2 = ((m.take a).2 && ((m.take a).1.take b).2) := by
  obtain ⟨b1, b2, b3, b4, b5, b6, b7, b8⟩ := hm
  by_cases h : m.cells - m.used < a
  · have e1 : m.take a = (m.refuse 3, false) := by unfold Mt.take; rw [if_neg (by omega), if_pos h]
    have e2 : m.take (a + b) = (m.refuse 3, false) := by unfold Mt.take; rw [if_neg (by omega), if_pos (by omega)]
    rw [e1, e2]; rfl
  · have e1 : (m.take a).2 = true := by unfold Mt.take; rw [if_neg (by omega), if_neg h]
    have e3 : (m.take a).1.used = m.used + a ∧ (m.take a).1.cells = m.cells := by unfold Mt.take; rw [if_neg (by omega), if_neg h]; exact ⟨rfl, rfl⟩
    rw [e1, Bool.true_and]
    by_cases g : m.cells - m.used < a + b
    · have e4 : (m.take (a + b)).2 = false := by unfold Mt.take; rw [if_neg (by omega), if_pos g]
      rw [e4]; symm
      generalize (m.take a).1 = m' at e3
      unfold Mt.take; rw [if_neg (by omega), if_pos (by omega)]
    · have e4 : (m.take (a + b)).2 = true := by unfold Mt.take; rw [if_neg (by omega), if_neg g]
      rw [e4]; symm
      generalize (m.take a).1 = m' at e3
      unfold Mt.take; rw [if_neg (by omega), if_neg (by omega)]
theorem step_two {m : Mt} (hm : m.ok) {a b : Int} (ha : 0 ≤ a) (hb : 0 ≤ b) : (m.step (a + b)).2 = ((m.step a).2 && ((m.step a).1.step b).2) := by
  obtain ⟨b1, b2, b3, b4, b5, b6, b7, b8⟩ := hm
  by_cases h : m.steps - m.done < a
  · have e1 : m.step a = (m.refuse 4, false) := by unfold Mt.step; rw [if_neg (by omega), if_pos h]
    have e2 : m.step (a + b) = (m.refuse 4, false) := by unfold Mt.step; rw [if_neg (by omega), if_pos (by omega)]
    rw [e1, e2]; rfl
  · have e1 : (m.step a).2 = true := by unfold Mt.step; rw [if_neg (by omega), if_neg h]
    have e3 : (m.step a).1.done = m.done + a ∧ (m.step a).1.steps = m.steps := by unfold Mt.step; rw [if_neg (by omega), if_neg h]; exact ⟨rfl, rfl⟩
    rw [e1, Bool.true_and]
    by_cases g : m.steps - m.done < a + b
    · have e4 : (m.step (a + b)).2 = false := by unfold Mt.step; rw [if_neg (by omega), if_pos g]
      rw [e4]; symm
      generalize (m.step a).1 = m' at e3
      unfold Mt.step; rw [if_neg (by omega), if_pos (by omega)]
    · have e4 : (m.step (a + b)).2 = true := by unfold Mt.step; rw [if_neg (by omega), if_neg g]
      rw [e4]; symm
      generalize (m.step a).1 = m' at e3
      unfold Mt.step; rw [if_neg (by omega), if_neg (by omega)]
theorem step_same {m m' : Mt} (h : m.done = m'.done) (g : m.steps = m'.steps) (n : Int) : (m.step n).2 = (m'.step n).2 := by
  unfold Mt.step; rw [h, g]; split
  · rfl
  · split <;> rfl
theorem take_steps (m : Mt) (n : Int) : (m.take n).1.done = m.done ∧ (m.take n).1.steps = m.steps := by
  unfold Mt.take; split
  · exact ⟨rfl, rfl⟩
  · split
    · exact ⟨(refuse_like m 3).2.2.1, (refuse_like m 3).2.2.2⟩
    · exact ⟨rfl, rfl⟩
theorem pair2 {α : Type} (p : α × Bool) : ∃ m r, p = (m, r) := ⟨p.1, p.2, rfl⟩
/-- Two takings, two steps: what each comes to. -/
theorem two_ways (m : Mt) (hm : m.ok) {a b : Int} (ha : 0 ≤ a) (hb : 0 ≤ b) : ∃ (m1 : Mt) (t1 : Bool) (m2 : Mt) (t2 : Bool) (n1 : Mt),
    m.take a = (m1, t1) ∧ m1.take b = (m2, t2) ∧ m.take (a + b) = (n1, t1 && t2) ∧ m1.ok ∧ m2.ok ∧ n1.ok ∧ (m1.done = m.done ∧ m1.steps = m.steps) ∧ (m2.done = m.done ∧ m2.steps = m.steps) ∧ n1.done = m.done ∧ n1.steps = m.steps := by
  refine ⟨_, _, _, _, _, rfl, rfl, Prod.ext rfl (take_two hm ha hb), Mt.take_ok hm _, Mt.take_ok (Mt.take_ok hm _) _, Mt.take_ok hm _, take_steps _ _, ?_, take_steps _ _⟩
  have h1 := take_steps m a
  have h2 := take_steps (m.take a).1 b
  exact ⟨h2.1.trans h1.1, h2.2.trans h1.2⟩
theorem two_steps (m n : Mt) (hm : m.ok) {a b : Int} (ha : 0 ≤ a) (hb : 0 ≤ b) (h : n.done = m.done) (g : n.steps = m.steps) : ∃ (m1 : Mt) (t1 : Bool) (m2 : Mt) (t2 : Bool) (n1 : Mt),
    m.step a = (m1, t1) ∧ m1.step b = (m2, t2) ∧ n.step (a + b) = (n1, t1 && t2) ∧ m1.ok :=
  ⟨_, _, _, _, _, rfl, rfl, Prod.ext rfl ((step_same h g _).trans (step_two hm ha hb)), Mt.step_ok hm _⟩
theorem small_bd (a : Int) : 0 ≤ wrap64 ((IntKind.u64.wrap a).tmod 2097152) ∧ wrap64 ((IntKind.u64.wrap a).tmod 2097152) < 2097152 := by
  have h : 0 ≤ IntKind.u64.wrap a := by
    rw [IntKind.wrap_u64]; omega
  rw [Int.tmod_eq_emod_of_nonneg h]
  have h1 := Int.emod_nonneg (IntKind.u64.wrap a) (b := 2097152) (by omega)
  have h2 := Int.emod_lt_of_pos (IntKind.u64.wrap a) (b := 2097152) (by omega)
  unfold wrap64; omega
set_option maxHeartbeats 1000000 in
theorem parts_c (c s a b : Int) (w : World) : Calls Try.prog 7 #[.int .i64 c, .int .i64 s, .int .i64 a, .int .i64 b] w fun e w' => e = .returned (.bool true) ∧ Below w.heap.size w w' := by
  obtain ⟨a1, a2⟩ := small_bd a
  obtain ⟨b1, b2⟩ := small_bd b
  obtain ⟨A, hA⟩ : ∃ A, wrap64 ((IntKind.u64.wrap a).tmod 2097152) = A := ⟨_, rfl⟩
  obtain ⟨B, hB⟩ : ∃ B, wrap64 ((IntKind.u64.wrap b).tmod 2097152) = B := ⟨_, rfl⟩
  rw [hA] at a1 a2
  rw [hB] at b1 b2
  have hm := Mt.new_ok c s
  obtain ⟨m1, t1, m2, t2, n1, e1, e2, e3, k1, k2, k3, d1, d2, d3⟩ := two_ways (Mt.new c s) hm a1 b1
  have HM := Lib.hid hm
  have E1 := Lib.hid e1
  have E2 := Lib.hid e2
  have E3 := Lib.hid e3
  clear e1 e2 e3 hm
  go_enter Try.func7, Try.ntmps7
  go_wp2_with fail
  refine (new_c _ _ _).mono ?_; rintro e w0 ⟨rfl, hw0⟩
  have h0 : MtAt w0 w.heap.size (Mt.new c s) := by rw [hw0]; exact Blk.made _ _ _
  have K0 := Lib.hid (show Below w.heap.size w w0 by rw [hw0]; exact below_alloc (Below.refl _ _) _)
  clear hw0
  go_wp2_with fail
  refine (new_c _ _ _).mono ?_; rintro e w1 ⟨rfl, hw1⟩
  have g1 : MtAt w1 w0.heap.size (Mt.new c s) := by rw [hw1]; exact Blk.made _ _ _
  have h1 : MtAt w1 w.heap.size (Mt.new c s) := by rw [hw1]; exact Blk.alloc h0 _
  have K1 := Lib.hid (show Below w.heap.size w w1 by rw [hw1]; exact below_alloc K0.out _)
  have N := Lib.hid (show w.heap.size < w0.heap.size from h0.lt)
  have NN := Lib.hid (show w0.heap.size ∉ [w.heap.size] by have := N.out; simp; omega)
  have NM := Lib.hid (show w.heap.size ∉ [w0.heap.size] by have := N.out; simp; omega)
  clear hw1 h0
  go_wp2_with fail
  refine (take_r E1.out HM.out h1).mono ?_; rintro e w2 ⟨rfl, h2, o2⟩
  have g2 : MtAt w2 w0.heap.size (Mt.new c s) := Blk.only g1 o2 NN.out
  have K2 := Lib.hid ((Only.ofBelow [w.heap.size, w0.heap.size] K1.out).step o2 (by simp))
  clear h1 g1 o2
  cases t1
  · have d := d1
    go_wp2_with fail
    refine (take_r E3.out HM.out g2).mono ?_; rintro e w4 ⟨rfl, g4, o4⟩
    have h4 : MtAt w4 w.heap.size m1 := Blk.only h2 o4 NM.out
    have K4 := Lib.hid (K2.out.step o4 (by simp))
    obtain ⟨p1, s1, p2, s2, q1, f1, f2, f3, l1⟩ := two_steps m1 n1 k1 a1 b1 (d3.1.trans d1.1.symm) (d3.2.trans d1.2.symm)
    have F1 := Lib.hid f1
    have F2 := Lib.hid f2
    have F3 := Lib.hid f3
    clear f1 f2 f3
    go_wp2_with fail
    refine (step_r F1.out k1 h4).mono ?_; rintro e w5 ⟨rfl, h5, o5⟩
    have g5 : MtAt w5 w0.heap.size n1 := Blk.only g4 o5 NN.out
    have K5 := Lib.hid (K4.out.step o5 (by simp))
    cases s1
    · go_wp2_with fail
      refine (step_r F3.out k3 g5).mono ?_; rintro e w7 ⟨rfl, g7, o7⟩
      have K7 := Lib.hid (K5.out.step o7 (by simp))
      go_wp2_with fail
      refine (awake_c _).mono ?_; rintro e w8 ⟨rfl, o8⟩
      go_wp2_with fail
      go_ret
      exact ⟨rfl, (K7.out.step (Only.ofBelow [] o8) (by simp)).below (by have := N.out; simp; omega)⟩
    · go_wp2_with fail
      refine (step_r F2.out l1 h5).mono ?_; rintro e w6 ⟨rfl, h6, o6⟩
      have g6 : MtAt w6 w0.heap.size n1 := Blk.only g5 o6 NN.out
      have K6 := Lib.hid (K5.out.step o6 (by simp))
      go_wp2_with fail
      refine (step_r F3.out k3 g6).mono ?_; rintro e w7 ⟨rfl, g7, o7⟩
      have K7 := Lib.hid (K6.out.step o7 (by simp))
      go_wp2_with fail
      refine (awake_c _).mono ?_; rintro e w8 ⟨rfl, o8⟩
      go_wp2_with fail
      go_ret
      exact ⟨rfl, (K7.out.step (Only.ofBelow [] o8) (by simp)).below (by have := N.out; simp; omega)⟩
  · have d := d1
    go_wp2_with fail
    refine (take_r E2.out k1 h2).mono ?_; rintro e w3 ⟨rfl, h3, o3⟩
    have g3 : MtAt w3 w0.heap.size (Mt.new c s) := Blk.only g2 o3 NN.out
    have K3 := Lib.hid (K2.out.step o3 (by simp))
    go_wp2_with fail
    refine (take_r E3.out HM.out g3).mono ?_; rintro e w4 ⟨rfl, g4, o4⟩
    have h4 : MtAt w4 w.heap.size m2 := Blk.only h3 o4 NM.out
    have K4 := Lib.hid (K3.out.step o4 (by simp))
    obtain ⟨p1, s1, p2, s2, q1, f1, f2, f3, l1⟩ := two_steps m2 n1 k2 a1 b1 (d3.1.trans d2.1.symm) (d3.2.trans d2.2.symm)
    have F1 := Lib.hid f1
    have F2 := Lib.hid f2
    have F3 := Lib.hid f3
    clear f1 f2 f3
    go_wp2_with fail
    refine (step_r F1.out k2 h4).mono ?_; rintro e w5 ⟨rfl, h5, o5⟩
    have g5 : MtAt w5 w0.heap.size n1 := Blk.only g4 o5 NN.out
    have K5 := Lib.hid (K4.out.step o5 (by simp))
    cases s1
    · go_wp2_with fail
      refine (step_r F3.out k3 g5).mono ?_; rintro e w7 ⟨rfl, g7, o7⟩
      have K7 := Lib.hid (K5.out.step o7 (by simp))
      go_wp2_with fail
      refine (awake_c _).mono ?_; rintro e w8 ⟨rfl, o8⟩
      go_wp2_with fail
      go_ret
      exact ⟨rfl, (K7.out.step (Only.ofBelow [] o8) (by simp)).below (by have := N.out; simp; omega)⟩
    · go_wp2_with fail
      refine (step_r F2.out l1 h5).mono ?_; rintro e w6 ⟨rfl, h6, o6⟩
      have g6 : MtAt w6 w0.heap.size n1 := Blk.only g5 o6 NN.out
      have K6 := Lib.hid (K5.out.step o6 (by simp))
      go_wp2_with fail
      refine (step_r F3.out k3 g6).mono ?_; rintro e w7 ⟨rfl, g7, o7⟩
      have K7 := Lib.hid (K6.out.step o7 (by simp))
      go_wp2_with fail
      refine (awake_c _).mono ?_; rintro e w8 ⟨rfl, o8⟩
      go_wp2_with fail
      go_ret
      exact ⟨rfl, (K7.out.step (Only.ofBelow [] o8) (by simp)).below (by have := N.out; simp; omega)⟩
end Go.Proofs.Ythbjdnhncgobkaa
