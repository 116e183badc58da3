/- The walk of BoundQuota, case by case. -/
import Derived.Test.YtjaikfgobkbhiaaC
import Derived.Test.YtjaikfgobkbhiaaKit

namespace Go.Proofs.Ytjaikfgobkbhiaa
open Go.RowKit
theorem rcells_c' (engine st cl mo : Int) (w : World) : Calls Try.prog 8 #[.int .i64 engine, .int .i64 st, .int .i64 cl, .int .i64 mo] w fun e w' => e = .returned (.int .i64 (cellsZ engine st cl mo)) ∧ w' = w :=
  (rcells_c engine st cl mo w).mono fun _ _ h => ⟨h.1, h.2.symm⟩
theorem rcompile_c' (a b c d f : Int) (w : World) : Calls Try.prog 10 #[.int .i64 a, .int .i64 b, .int .i64 c, .int .i64 d, .int .i64 f] w fun e w' => e = .returned (.int .i64 (compileZ a b c d f)) ∧ w' = w :=
  (rcompile_c a b c d f w).mono fun _ _ h => ⟨h.1, h.2.symm⟩
theorem rscan_c' (a b c : Int) (w : World) : Calls Try.prog 12 #[.int .i64 a, .int .i64 b, .int .i64 c] w fun e w' => e = .returned (.int .i64 (scanZ a b c)) ∧ w' = w :=
  (rscan_c a b c w).mono fun _ _ h => ⟨h.1, h.2.symm⟩
theorem quota_big (c s tl st ca engine states classes file input : Int) (w : World) (h : 1125899906842624 < c ∨ 1125899906842624 < s) :
    Calls Try.prog 4 #[.agg #[.int .i64 c, .int .i64 s, .int .i64 tl, .int .i64 st, .int .i64 ca], .int .i64 engine, .int .i64 states, .int .i64 classes, .int .i64 file, .int .i64 input] w fun e w' => e = .returned (.bool true) ∧ Below w.heap.size w w' := by
  by_cases hc : 1125899906842624 < c
  · clear h
    go_enter Try.func4, Try.ntmps4
    go_wp2_with (go_at_call 6; refine (awake_c _).mono ?_; rintro e w1 ⟨rfl, hb1⟩; obtain ⟨hk1, hf1⟩ := bcell hb1; have hz1 := hb1.size)
    go_ret
    exact ⟨rfl, (by repeat (first | with_reducible exact Below.refl _ _ | with_reducible refine below_draws ?_ _ | with_reducible refine below_alloc ?_ _ | with_reducible refine below_put ?_ (by simp; omega) _ | with_reducible assumption | (refine below_step ?_ (by assumption))))⟩
  · have hs : 1125899906842624 < s := by omega
    clear h
    go_enter Try.func4, Try.ntmps4
    go_wp2_with (go_at_call 6; refine (awake_c _).mono ?_; rintro e w1 ⟨rfl, hb1⟩; obtain ⟨hk1, hf1⟩ := bcell hb1; have hz1 := hb1.size)
    go_ret
    exact ⟨rfl, (by repeat (first | with_reducible exact Below.refl _ _ | with_reducible refine below_draws ?_ _ | with_reducible refine below_alloc ?_ _ | with_reducible refine below_put ?_ (by simp; omega) _ | with_reducible assumption | (refine below_step ?_ (by assumption))))⟩
set_option maxHeartbeats 1000000 in
theorem quota_1_0 (c s tl st ca states classes file input : Int) (w : World) (hc : c ≤ 1125899906842624) (hs : s ≤ 1125899906842624) (hc0 : -9223372036854775808 ≤ c) (hs0 : -9223372036854775808 ≤ s) (g1 : cellsZ 1 states classes st ≤ c) (g2 : compileZ file 400 states classes st ≤ s) (g3 : scanZ 1 states input ≤ s) :
    Calls Try.prog 4 #[.agg #[.int .i64 c, .int .i64 s, .int .i64 tl, .int .i64 st, .int .i64 ca], .int .i64 1, .int .i64 states, .int .i64 classes, .int .i64 file, .int .i64 input] w fun e w' => e = .returned (.bool true) ∧ Below w.heap.size w w' := by
  have is1 : enoughZ c s st ca 1 states classes file input = true := decide_eq_true ⟨by decide, by decide, g1, g2, g3⟩
  have is2 : enoughZ (c + 1) (s + 1) st ca 1 states classes file input = true := decide_eq_true ⟨by decide, by decide, Int.le_trans g1 (by omega), Int.le_trans g2 (by omega), Int.le_trans g3 (by omega)⟩
  have d1 : decide (cellsZ 1 states classes st ≤ c) = true := by simpa using g1
  clear g1
  have d2 : decide (compileZ file 400 states classes st ≤ s) = true := by simpa using g2
  clear g2
  have d3 : decide (scanZ 1 states input ≤ s) = true := by simpa using g3
  clear g3
  go_enter Try.func4, Try.ntmps4
  go_wp2_with (first | (go_at_call 6; refine (awake_c _).mono ?_; rintro e w1 ⟨rfl, hb1⟩; obtain ⟨hk1, hf1⟩ := bcell hb1; have hz1 : w.heap.size < w1.heap.size := Nat.lt_of_lt_of_le (by simp) hb1.size; have c1_0 : w1.cell? ⟨w.heap.size, 0, none⟩ = some (.int .i64 c) := (hb1.cell (p := ⟨w.heap.size, 0, none⟩) (by simp)).trans (by go_simp); have c1_1 : w1.cell? ⟨w.heap.size, 1, none⟩ = some (.int .i64 s) := (hb1.cell (p := ⟨w.heap.size, 1, none⟩) (by simp)).trans (by go_simp); have c1_2 : w1.cell? ⟨w.heap.size, 2, none⟩ = some (.int .i64 tl) := (hb1.cell (p := ⟨w.heap.size, 2, none⟩) (by simp)).trans (by go_simp); have c1_3 : w1.cell? ⟨w.heap.size, 3, none⟩ = some (.int .i64 st) := (hb1.cell (p := ⟨w.heap.size, 3, none⟩) (by simp)).trans (by go_simp); have c1_4 : w1.cell? ⟨w.heap.size, 4, none⟩ = some (.int .i64 ca) := (hb1.cell (p := ⟨w.heap.size, 4, none⟩) (by simp)).trans (by go_simp)) | (go_at_call 13; (with_reducible refine (enough_c c _ _ _ _ _ _ _ _ _ _).mono ?_); rintro e w2 ⟨rfl, hb2⟩; obtain ⟨hk2, hf2⟩ := bcell hb2; have hz2 := hb2.size; have c2_0 : w2.cell? ⟨w.heap.size, 0, none⟩ = some (.int .i64 c) := (hb2.cell (p := ⟨w.heap.size, 0, none⟩) hz1).trans c1_0; have c2_1 : w2.cell? ⟨w.heap.size, 1, none⟩ = some (.int .i64 s) := (hb2.cell (p := ⟨w.heap.size, 1, none⟩) hz1).trans c1_1; have c2_2 : w2.cell? ⟨w.heap.size, 2, none⟩ = some (.int .i64 tl) := (hb2.cell (p := ⟨w.heap.size, 2, none⟩) hz1).trans c1_2; have c2_3 : w2.cell? ⟨w.heap.size, 3, none⟩ = some (.int .i64 st) := (hb2.cell (p := ⟨w.heap.size, 3, none⟩) hz1).trans c1_3; have c2_4 : w2.cell? ⟨w.heap.size, 4, none⟩ = some (.int .i64 ca) := (hb2.cell (p := ⟨w.heap.size, 4, none⟩) hz1).trans c1_4))
  go_quiet ((first | (go_at_call 8; exact Calls.quiet_of_same (rcells_c' _ _ _ _ _)) | (go_at_call 10; exact Calls.quiet_of_same (rcompile_c' _ _ _ _ _ _)) | (go_at_call 12; exact Calls.quiet_of_same (rscan_c' _ _ _ _))))
  have c3_0 : (w2.drewN nq).cell? ⟨w.heap.size, 0, none⟩ = some (.int .i64 c) := c2_0
  have c3_1 : (w2.drewN nq).cell? ⟨w.heap.size, 1, none⟩ = some (.int .i64 s) := c2_1
  have c3_2 : (w2.drewN nq).cell? ⟨w.heap.size, 2, none⟩ = some (.int .i64 tl) := c2_2
  have c3_3 : (w2.drewN nq).cell? ⟨w.heap.size, 3, none⟩ = some (.int .i64 st) := c2_3
  have c3_4 : (w2.drewN nq).cell? ⟨w.heap.size, 4, none⟩ = some (.int .i64 ca) := c2_4
  have hb4 : Below w.heap.size w (w2.drewN nq) := (by repeat (first | with_reducible exact Below.refl _ _ | with_reducible refine below_draws ?_ _ | with_reducible refine below_alloc ?_ _ | with_reducible refine below_put ?_ (by simp; omega) _ | with_reducible assumption | (refine below_step ?_ (by assumption))))
  clear hb1 hb2 hk1 hk2 hf1 hf2 hz1 hz2 c2_0 c2_1 c2_2 c2_3 c2_4 c1_0 c1_1 c1_2 c1_3 c1_4
  generalize w2.drewN nq = w4 at c3_0 c3_1 c3_2 c3_3 c3_4 hb4 ⊢
  go_wp2_with (go_at_call 13; (with_reducible refine (enough_c (c + 1) _ _ _ _ _ _ _ _ _ _).mono ?_); rintro e w3 ⟨rfl, hb3⟩)
  go_ret
  exact ⟨rfl, (by repeat (first | with_reducible exact Below.refl _ _ | with_reducible refine below_draws ?_ _ | with_reducible refine below_alloc ?_ _ | with_reducible refine below_put ?_ (by simp; omega) _ | with_reducible assumption | (refine below_step ?_ (by assumption))))⟩
set_option maxHeartbeats 1000000 in
theorem quota_1_1 (c s tl st ca states classes file input : Int) (w : World) (hc : c ≤ 1125899906842624) (hs : s ≤ 1125899906842624) (hc0 : -9223372036854775808 ≤ c) (hs0 : -9223372036854775808 ≤ s) (g1 : ¬ cellsZ 1 states classes st ≤ c) :
    Calls Try.prog 4 #[.agg #[.int .i64 c, .int .i64 s, .int .i64 tl, .int .i64 st, .int .i64 ca], .int .i64 1, .int .i64 states, .int .i64 classes, .int .i64 file, .int .i64 input] w fun e w' => e = .returned (.bool true) ∧ Below w.heap.size w w' := by
  have is1 : enoughZ c s st ca 1 states classes file input = false := decide_eq_false (by rintro ⟨_, _, a, b, d⟩; exact g1 a)
  have d1 : decide (cellsZ 1 states classes st ≤ c) = false := by simpa using g1
  clear g1
  go_enter Try.func4, Try.ntmps4
  go_wp2_with (first | (go_at_call 6; refine (awake_c _).mono ?_; rintro e w1 ⟨rfl, hb1⟩; obtain ⟨hk1, hf1⟩ := bcell hb1; have hz1 : w.heap.size < w1.heap.size := Nat.lt_of_lt_of_le (by simp) hb1.size; have c1_0 : w1.cell? ⟨w.heap.size, 0, none⟩ = some (.int .i64 c) := (hb1.cell (p := ⟨w.heap.size, 0, none⟩) (by simp)).trans (by go_simp); have c1_1 : w1.cell? ⟨w.heap.size, 1, none⟩ = some (.int .i64 s) := (hb1.cell (p := ⟨w.heap.size, 1, none⟩) (by simp)).trans (by go_simp); have c1_2 : w1.cell? ⟨w.heap.size, 2, none⟩ = some (.int .i64 tl) := (hb1.cell (p := ⟨w.heap.size, 2, none⟩) (by simp)).trans (by go_simp); have c1_3 : w1.cell? ⟨w.heap.size, 3, none⟩ = some (.int .i64 st) := (hb1.cell (p := ⟨w.heap.size, 3, none⟩) (by simp)).trans (by go_simp); have c1_4 : w1.cell? ⟨w.heap.size, 4, none⟩ = some (.int .i64 ca) := (hb1.cell (p := ⟨w.heap.size, 4, none⟩) (by simp)).trans (by go_simp)) | (go_at_call 13; (with_reducible refine (enough_c c _ _ _ _ _ _ _ _ _ _).mono ?_); rintro e w2 ⟨rfl, hb2⟩; obtain ⟨hk2, hf2⟩ := bcell hb2; have hz2 := hb2.size; have c2_0 : w2.cell? ⟨w.heap.size, 0, none⟩ = some (.int .i64 c) := (hb2.cell (p := ⟨w.heap.size, 0, none⟩) hz1).trans c1_0; have c2_1 : w2.cell? ⟨w.heap.size, 1, none⟩ = some (.int .i64 s) := (hb2.cell (p := ⟨w.heap.size, 1, none⟩) hz1).trans c1_1; have c2_2 : w2.cell? ⟨w.heap.size, 2, none⟩ = some (.int .i64 tl) := (hb2.cell (p := ⟨w.heap.size, 2, none⟩) hz1).trans c1_2; have c2_3 : w2.cell? ⟨w.heap.size, 3, none⟩ = some (.int .i64 st) := (hb2.cell (p := ⟨w.heap.size, 3, none⟩) hz1).trans c1_3; have c2_4 : w2.cell? ⟨w.heap.size, 4, none⟩ = some (.int .i64 ca) := (hb2.cell (p := ⟨w.heap.size, 4, none⟩) hz1).trans c1_4))
  go_quiet ((first | (go_at_call 8; exact Calls.quiet_of_same (rcells_c' _ _ _ _ _)) | (go_at_call 10; exact Calls.quiet_of_same (rcompile_c' _ _ _ _ _ _)) | (go_at_call 12; exact Calls.quiet_of_same (rscan_c' _ _ _ _))))
  have c3_0 : (w2.drewN nq).cell? ⟨w.heap.size, 0, none⟩ = some (.int .i64 c) := c2_0
  have c3_1 : (w2.drewN nq).cell? ⟨w.heap.size, 1, none⟩ = some (.int .i64 s) := c2_1
  have c3_2 : (w2.drewN nq).cell? ⟨w.heap.size, 2, none⟩ = some (.int .i64 tl) := c2_2
  have c3_3 : (w2.drewN nq).cell? ⟨w.heap.size, 3, none⟩ = some (.int .i64 st) := c2_3
  have c3_4 : (w2.drewN nq).cell? ⟨w.heap.size, 4, none⟩ = some (.int .i64 ca) := c2_4
  have hb4 : Below w.heap.size w (w2.drewN nq) := (by repeat (first | with_reducible exact Below.refl _ _ | with_reducible refine below_draws ?_ _ | with_reducible refine below_alloc ?_ _ | with_reducible refine below_put ?_ (by simp; omega) _ | with_reducible assumption | (refine below_step ?_ (by assumption))))
  clear hb1 hb2 hk1 hk2 hf1 hf2 hz1 hz2 c2_0 c2_1 c2_2 c2_3 c2_4 c1_0 c1_1 c1_2 c1_3 c1_4
  generalize w2.drewN nq = w4 at c3_0 c3_1 c3_2 c3_3 c3_4 hb4 ⊢
  go_wp2_with (go_at_call 13; (with_reducible refine (enough_c (c + 1) _ _ _ _ _ _ _ _ _ _).mono ?_); rintro e w3 ⟨rfl, hb3⟩)
  go_ret
  exact ⟨rfl, (by repeat (first | with_reducible exact Below.refl _ _ | with_reducible refine below_draws ?_ _ | with_reducible refine below_alloc ?_ _ | with_reducible refine below_put ?_ (by simp; omega) _ | with_reducible assumption | (refine below_step ?_ (by assumption))))⟩
set_option maxHeartbeats 1000000 in
theorem quota_1_2 (c s tl st ca states classes file input : Int) (w : World) (hc : c ≤ 1125899906842624) (hs : s ≤ 1125899906842624) (hc0 : -9223372036854775808 ≤ c) (hs0 : -9223372036854775808 ≤ s) (g1 : cellsZ 1 states classes st ≤ c) (g2 : ¬ compileZ file 400 states classes st ≤ s) :
    Calls Try.prog 4 #[.agg #[.int .i64 c, .int .i64 s, .int .i64 tl, .int .i64 st, .int .i64 ca], .int .i64 1, .int .i64 states, .int .i64 classes, .int .i64 file, .int .i64 input] w fun e w' => e = .returned (.bool true) ∧ Below w.heap.size w w' := by
  have is1 : enoughZ c s st ca 1 states classes file input = false := decide_eq_false (by rintro ⟨_, _, a, b, d⟩; exact g2 b)
  have d1 : decide (cellsZ 1 states classes st ≤ c) = true := by simpa using g1
  clear g1
  have d2 : decide (compileZ file 400 states classes st ≤ s) = false := by simpa using g2
  clear g2
  go_enter Try.func4, Try.ntmps4
  go_wp2_with (first | (go_at_call 6; refine (awake_c _).mono ?_; rintro e w1 ⟨rfl, hb1⟩; obtain ⟨hk1, hf1⟩ := bcell hb1; have hz1 : w.heap.size < w1.heap.size := Nat.lt_of_lt_of_le (by simp) hb1.size; have c1_0 : w1.cell? ⟨w.heap.size, 0, none⟩ = some (.int .i64 c) := (hb1.cell (p := ⟨w.heap.size, 0, none⟩) (by simp)).trans (by go_simp); have c1_1 : w1.cell? ⟨w.heap.size, 1, none⟩ = some (.int .i64 s) := (hb1.cell (p := ⟨w.heap.size, 1, none⟩) (by simp)).trans (by go_simp); have c1_2 : w1.cell? ⟨w.heap.size, 2, none⟩ = some (.int .i64 tl) := (hb1.cell (p := ⟨w.heap.size, 2, none⟩) (by simp)).trans (by go_simp); have c1_3 : w1.cell? ⟨w.heap.size, 3, none⟩ = some (.int .i64 st) := (hb1.cell (p := ⟨w.heap.size, 3, none⟩) (by simp)).trans (by go_simp); have c1_4 : w1.cell? ⟨w.heap.size, 4, none⟩ = some (.int .i64 ca) := (hb1.cell (p := ⟨w.heap.size, 4, none⟩) (by simp)).trans (by go_simp)) | (go_at_call 13; (with_reducible refine (enough_c c _ _ _ _ _ _ _ _ _ _).mono ?_); rintro e w2 ⟨rfl, hb2⟩; obtain ⟨hk2, hf2⟩ := bcell hb2; have hz2 := hb2.size; have c2_0 : w2.cell? ⟨w.heap.size, 0, none⟩ = some (.int .i64 c) := (hb2.cell (p := ⟨w.heap.size, 0, none⟩) hz1).trans c1_0; have c2_1 : w2.cell? ⟨w.heap.size, 1, none⟩ = some (.int .i64 s) := (hb2.cell (p := ⟨w.heap.size, 1, none⟩) hz1).trans c1_1; have c2_2 : w2.cell? ⟨w.heap.size, 2, none⟩ = some (.int .i64 tl) := (hb2.cell (p := ⟨w.heap.size, 2, none⟩) hz1).trans c1_2; have c2_3 : w2.cell? ⟨w.heap.size, 3, none⟩ = some (.int .i64 st) := (hb2.cell (p := ⟨w.heap.size, 3, none⟩) hz1).trans c1_3; have c2_4 : w2.cell? ⟨w.heap.size, 4, none⟩ = some (.int .i64 ca) := (hb2.cell (p := ⟨w.heap.size, 4, none⟩) hz1).trans c1_4))
  go_quiet ((first | (go_at_call 8; exact Calls.quiet_of_same (rcells_c' _ _ _ _ _)) | (go_at_call 10; exact Calls.quiet_of_same (rcompile_c' _ _ _ _ _ _)) | (go_at_call 12; exact Calls.quiet_of_same (rscan_c' _ _ _ _))))
  have c3_0 : (w2.drewN nq).cell? ⟨w.heap.size, 0, none⟩ = some (.int .i64 c) := c2_0
  have c3_1 : (w2.drewN nq).cell? ⟨w.heap.size, 1, none⟩ = some (.int .i64 s) := c2_1
  have c3_2 : (w2.drewN nq).cell? ⟨w.heap.size, 2, none⟩ = some (.int .i64 tl) := c2_2
  have c3_3 : (w2.drewN nq).cell? ⟨w.heap.size, 3, none⟩ = some (.int .i64 st) := c2_3
  have c3_4 : (w2.drewN nq).cell? ⟨w.heap.size, 4, none⟩ = some (.int .i64 ca) := c2_4
  have hb4 : Below w.heap.size w (w2.drewN nq) := (by repeat (first | with_reducible exact Below.refl _ _ | with_reducible refine below_draws ?_ _ | with_reducible refine below_alloc ?_ _ | with_reducible refine below_put ?_ (by simp; omega) _ | with_reducible assumption | (refine below_step ?_ (by assumption))))
  clear hb1 hb2 hk1 hk2 hf1 hf2 hz1 hz2 c2_0 c2_1 c2_2 c2_3 c2_4 c1_0 c1_1 c1_2 c1_3 c1_4
  generalize w2.drewN nq = w4 at c3_0 c3_1 c3_2 c3_3 c3_4 hb4 ⊢
  go_wp2_with (go_at_call 13; (with_reducible refine (enough_c (c + 1) _ _ _ _ _ _ _ _ _ _).mono ?_); rintro e w3 ⟨rfl, hb3⟩)
  go_ret
  exact ⟨rfl, (by repeat (first | with_reducible exact Below.refl _ _ | with_reducible refine below_draws ?_ _ | with_reducible refine below_alloc ?_ _ | with_reducible refine below_put ?_ (by simp; omega) _ | with_reducible assumption | (refine below_step ?_ (by assumption))))⟩
set_option maxHeartbeats 1000000 in
theorem quota_1_3 (c s tl st ca states classes file input : Int) (w : World) (hc : c ≤ 1125899906842624) (hs : s ≤ 1125899906842624) (hc0 : -9223372036854775808 ≤ c) (hs0 : -9223372036854775808 ≤ s) (g1 : cellsZ 1 states classes st ≤ c) (g2 : compileZ file 400 states classes st ≤ s) (g3 : ¬ scanZ 1 states input ≤ s) :
    Calls Try.prog 4 #[.agg #[.int .i64 c, .int .i64 s, .int .i64 tl, .int .i64 st, .int .i64 ca], .int .i64 1, .int .i64 states, .int .i64 classes, .int .i64 file, .int .i64 input] w fun e w' => e = .returned (.bool true) ∧ Below w.heap.size w w' := by
  have is1 : enoughZ c s st ca 1 states classes file input = false := decide_eq_false (by rintro ⟨_, _, a, b, d⟩; exact g3 d)
  have d1 : decide (cellsZ 1 states classes st ≤ c) = true := by simpa using g1
  clear g1
  have d2 : decide (compileZ file 400 states classes st ≤ s) = true := by simpa using g2
  clear g2
  have d3 : decide (scanZ 1 states input ≤ s) = false := by simpa using g3
  clear g3
  go_enter Try.func4, Try.ntmps4
  go_wp2_with (first | (go_at_call 6; refine (awake_c _).mono ?_; rintro e w1 ⟨rfl, hb1⟩; obtain ⟨hk1, hf1⟩ := bcell hb1; have hz1 : w.heap.size < w1.heap.size := Nat.lt_of_lt_of_le (by simp) hb1.size; have c1_0 : w1.cell? ⟨w.heap.size, 0, none⟩ = some (.int .i64 c) := (hb1.cell (p := ⟨w.heap.size, 0, none⟩) (by simp)).trans (by go_simp); have c1_1 : w1.cell? ⟨w.heap.size, 1, none⟩ = some (.int .i64 s) := (hb1.cell (p := ⟨w.heap.size, 1, none⟩) (by simp)).trans (by go_simp); have c1_2 : w1.cell? ⟨w.heap.size, 2, none⟩ = some (.int .i64 tl) := (hb1.cell (p := ⟨w.heap.size, 2, none⟩) (by simp)).trans (by go_simp); have c1_3 : w1.cell? ⟨w.heap.size, 3, none⟩ = some (.int .i64 st) := (hb1.cell (p := ⟨w.heap.size, 3, none⟩) (by simp)).trans (by go_simp); have c1_4 : w1.cell? ⟨w.heap.size, 4, none⟩ = some (.int .i64 ca) := (hb1.cell (p := ⟨w.heap.size, 4, none⟩) (by simp)).trans (by go_simp)) | (go_at_call 13; (with_reducible refine (enough_c c _ _ _ _ _ _ _ _ _ _).mono ?_); rintro e w2 ⟨rfl, hb2⟩; obtain ⟨hk2, hf2⟩ := bcell hb2; have hz2 := hb2.size; have c2_0 : w2.cell? ⟨w.heap.size, 0, none⟩ = some (.int .i64 c) := (hb2.cell (p := ⟨w.heap.size, 0, none⟩) hz1).trans c1_0; have c2_1 : w2.cell? ⟨w.heap.size, 1, none⟩ = some (.int .i64 s) := (hb2.cell (p := ⟨w.heap.size, 1, none⟩) hz1).trans c1_1; have c2_2 : w2.cell? ⟨w.heap.size, 2, none⟩ = some (.int .i64 tl) := (hb2.cell (p := ⟨w.heap.size, 2, none⟩) hz1).trans c1_2; have c2_3 : w2.cell? ⟨w.heap.size, 3, none⟩ = some (.int .i64 st) := (hb2.cell (p := ⟨w.heap.size, 3, none⟩) hz1).trans c1_3; have c2_4 : w2.cell? ⟨w.heap.size, 4, none⟩ = some (.int .i64 ca) := (hb2.cell (p := ⟨w.heap.size, 4, none⟩) hz1).trans c1_4))
  go_quiet ((first | (go_at_call 8; exact Calls.quiet_of_same (rcells_c' _ _ _ _ _)) | (go_at_call 10; exact Calls.quiet_of_same (rcompile_c' _ _ _ _ _ _)) | (go_at_call 12; exact Calls.quiet_of_same (rscan_c' _ _ _ _))))
  have c3_0 : (w2.drewN nq).cell? ⟨w.heap.size, 0, none⟩ = some (.int .i64 c) := c2_0
  have c3_1 : (w2.drewN nq).cell? ⟨w.heap.size, 1, none⟩ = some (.int .i64 s) := c2_1
  have c3_2 : (w2.drewN nq).cell? ⟨w.heap.size, 2, none⟩ = some (.int .i64 tl) := c2_2
  have c3_3 : (w2.drewN nq).cell? ⟨w.heap.size, 3, none⟩ = some (.int .i64 st) := c2_3
  have c3_4 : (w2.drewN nq).cell? ⟨w.heap.size, 4, none⟩ = some (.int .i64 ca) := c2_4
  have hb4 : Below w.heap.size w (w2.drewN nq) := (by repeat (first | with_reducible exact Below.refl _ _ | with_reducible refine below_draws ?_ _ | with_reducible refine below_alloc ?_ _ | with_reducible refine below_put ?_ (by simp; omega) _ | with_reducible assumption | (refine below_step ?_ (by assumption))))
  clear hb1 hb2 hk1 hk2 hf1 hf2 hz1 hz2 c2_0 c2_1 c2_2 c2_3 c2_4 c1_0 c1_1 c1_2 c1_3 c1_4
  generalize w2.drewN nq = w4 at c3_0 c3_1 c3_2 c3_3 c3_4 hb4 ⊢
  go_wp2_with (go_at_call 13; (with_reducible refine (enough_c (c + 1) _ _ _ _ _ _ _ _ _ _).mono ?_); rintro e w3 ⟨rfl, hb3⟩)
  go_ret
  exact ⟨rfl, (by repeat (first | with_reducible exact Below.refl _ _ | with_reducible refine below_draws ?_ _ | with_reducible refine below_alloc ?_ _ | with_reducible refine below_put ?_ (by simp; omega) _ | with_reducible assumption | (refine below_step ?_ (by assumption))))⟩
set_option maxHeartbeats 1000000 in
theorem quota_2_0 (c s tl st ca states classes file input : Int) (w : World) (hc : c ≤ 1125899906842624) (hs : s ≤ 1125899906842624) (hc0 : -9223372036854775808 ≤ c) (hs0 : -9223372036854775808 ≤ s) (g1 : cellsZ 2 states classes ca ≤ c) (g2 : compileZ file 400 states classes st ≤ s) (g3 : scanZ 2 states input ≤ s) :
    Calls Try.prog 4 #[.agg #[.int .i64 c, .int .i64 s, .int .i64 tl, .int .i64 st, .int .i64 ca], .int .i64 2, .int .i64 states, .int .i64 classes, .int .i64 file, .int .i64 input] w fun e w' => e = .returned (.bool true) ∧ Below w.heap.size w w' := by
  have is1 : enoughZ c s st ca 2 states classes file input = true := decide_eq_true ⟨by decide, by decide, g1, g2, g3⟩
  have is2 : enoughZ (c + 1) (s + 1) st ca 2 states classes file input = true := decide_eq_true ⟨by decide, by decide, Int.le_trans g1 (by omega), Int.le_trans g2 (by omega), Int.le_trans g3 (by omega)⟩
  have d1 : decide (cellsZ 2 states classes ca ≤ c) = true := by simpa using g1
  clear g1
  have d2 : decide (compileZ file 400 states classes st ≤ s) = true := by simpa using g2
  clear g2
  have d3 : decide (scanZ 2 states input ≤ s) = true := by simpa using g3
  clear g3
  go_enter Try.func4, Try.ntmps4
  go_wp2_with (first | (go_at_call 6; refine (awake_c _).mono ?_; rintro e w1 ⟨rfl, hb1⟩; obtain ⟨hk1, hf1⟩ := bcell hb1; have hz1 : w.heap.size < w1.heap.size := Nat.lt_of_lt_of_le (by simp) hb1.size; have c1_0 : w1.cell? ⟨w.heap.size, 0, none⟩ = some (.int .i64 c) := (hb1.cell (p := ⟨w.heap.size, 0, none⟩) (by simp)).trans (by go_simp); have c1_1 : w1.cell? ⟨w.heap.size, 1, none⟩ = some (.int .i64 s) := (hb1.cell (p := ⟨w.heap.size, 1, none⟩) (by simp)).trans (by go_simp); have c1_2 : w1.cell? ⟨w.heap.size, 2, none⟩ = some (.int .i64 tl) := (hb1.cell (p := ⟨w.heap.size, 2, none⟩) (by simp)).trans (by go_simp); have c1_3 : w1.cell? ⟨w.heap.size, 3, none⟩ = some (.int .i64 st) := (hb1.cell (p := ⟨w.heap.size, 3, none⟩) (by simp)).trans (by go_simp); have c1_4 : w1.cell? ⟨w.heap.size, 4, none⟩ = some (.int .i64 ca) := (hb1.cell (p := ⟨w.heap.size, 4, none⟩) (by simp)).trans (by go_simp)) | (go_at_call 13; (with_reducible refine (enough_c c _ _ _ _ _ _ _ _ _ _).mono ?_); rintro e w2 ⟨rfl, hb2⟩; obtain ⟨hk2, hf2⟩ := bcell hb2; have hz2 := hb2.size; have c2_0 : w2.cell? ⟨w.heap.size, 0, none⟩ = some (.int .i64 c) := (hb2.cell (p := ⟨w.heap.size, 0, none⟩) hz1).trans c1_0; have c2_1 : w2.cell? ⟨w.heap.size, 1, none⟩ = some (.int .i64 s) := (hb2.cell (p := ⟨w.heap.size, 1, none⟩) hz1).trans c1_1; have c2_2 : w2.cell? ⟨w.heap.size, 2, none⟩ = some (.int .i64 tl) := (hb2.cell (p := ⟨w.heap.size, 2, none⟩) hz1).trans c1_2; have c2_3 : w2.cell? ⟨w.heap.size, 3, none⟩ = some (.int .i64 st) := (hb2.cell (p := ⟨w.heap.size, 3, none⟩) hz1).trans c1_3; have c2_4 : w2.cell? ⟨w.heap.size, 4, none⟩ = some (.int .i64 ca) := (hb2.cell (p := ⟨w.heap.size, 4, none⟩) hz1).trans c1_4))
  go_quiet ((first | (go_at_call 8; exact Calls.quiet_of_same (rcells_c' _ _ _ _ _)) | (go_at_call 10; exact Calls.quiet_of_same (rcompile_c' _ _ _ _ _ _)) | (go_at_call 12; exact Calls.quiet_of_same (rscan_c' _ _ _ _))))
  have c3_0 : (w2.drewN nq).cell? ⟨w.heap.size, 0, none⟩ = some (.int .i64 c) := c2_0
  have c3_1 : (w2.drewN nq).cell? ⟨w.heap.size, 1, none⟩ = some (.int .i64 s) := c2_1
  have c3_2 : (w2.drewN nq).cell? ⟨w.heap.size, 2, none⟩ = some (.int .i64 tl) := c2_2
  have c3_3 : (w2.drewN nq).cell? ⟨w.heap.size, 3, none⟩ = some (.int .i64 st) := c2_3
  have c3_4 : (w2.drewN nq).cell? ⟨w.heap.size, 4, none⟩ = some (.int .i64 ca) := c2_4
  have hb4 : Below w.heap.size w (w2.drewN nq) := (by repeat (first | with_reducible exact Below.refl _ _ | with_reducible refine below_draws ?_ _ | with_reducible refine below_alloc ?_ _ | with_reducible refine below_put ?_ (by simp; omega) _ | with_reducible assumption | (refine below_step ?_ (by assumption))))
  clear hb1 hb2 hk1 hk2 hf1 hf2 hz1 hz2 c2_0 c2_1 c2_2 c2_3 c2_4 c1_0 c1_1 c1_2 c1_3 c1_4
  generalize w2.drewN nq = w4 at c3_0 c3_1 c3_2 c3_3 c3_4 hb4 ⊢
  go_wp2_with (go_at_call 13; (with_reducible refine (enough_c (c + 1) _ _ _ _ _ _ _ _ _ _).mono ?_); rintro e w3 ⟨rfl, hb3⟩)
  go_ret
  exact ⟨rfl, (by repeat (first | with_reducible exact Below.refl _ _ | with_reducible refine below_draws ?_ _ | with_reducible refine below_alloc ?_ _ | with_reducible refine below_put ?_ (by simp; omega) _ | with_reducible assumption | (refine below_step ?_ (by assumption))))⟩
set_option maxHeartbeats 1000000 in
theorem quota_2_1 (c s tl st ca states classes file input : Int) (w : World) (hc : c ≤ 1125899906842624) (hs : s ≤ 1125899906842624) (hc0 : -9223372036854775808 ≤ c) (hs0 : -9223372036854775808 ≤ s) (g1 : ¬ cellsZ 2 states classes ca ≤ c) :
    Calls Try.prog 4 #[.agg #[.int .i64 c, .int .i64 s, .int .i64 tl, .int .i64 st, .int .i64 ca], .int .i64 2, .int .i64 states, .int .i64 classes, .int .i64 file, .int .i64 input] w fun e w' => e = .returned (.bool true) ∧ Below w.heap.size w w' := by
  have is1 : enoughZ c s st ca 2 states classes file input = false := decide_eq_false (by rintro ⟨_, _, a, b, d⟩; exact g1 a)
  have d1 : decide (cellsZ 2 states classes ca ≤ c) = false := by simpa using g1
  clear g1
  go_enter Try.func4, Try.ntmps4
  go_wp2_with (first | (go_at_call 6; refine (awake_c _).mono ?_; rintro e w1 ⟨rfl, hb1⟩; obtain ⟨hk1, hf1⟩ := bcell hb1; have hz1 : w.heap.size < w1.heap.size := Nat.lt_of_lt_of_le (by simp) hb1.size; have c1_0 : w1.cell? ⟨w.heap.size, 0, none⟩ = some (.int .i64 c) := (hb1.cell (p := ⟨w.heap.size, 0, none⟩) (by simp)).trans (by go_simp); have c1_1 : w1.cell? ⟨w.heap.size, 1, none⟩ = some (.int .i64 s) := (hb1.cell (p := ⟨w.heap.size, 1, none⟩) (by simp)).trans (by go_simp); have c1_2 : w1.cell? ⟨w.heap.size, 2, none⟩ = some (.int .i64 tl) := (hb1.cell (p := ⟨w.heap.size, 2, none⟩) (by simp)).trans (by go_simp); have c1_3 : w1.cell? ⟨w.heap.size, 3, none⟩ = some (.int .i64 st) := (hb1.cell (p := ⟨w.heap.size, 3, none⟩) (by simp)).trans (by go_simp); have c1_4 : w1.cell? ⟨w.heap.size, 4, none⟩ = some (.int .i64 ca) := (hb1.cell (p := ⟨w.heap.size, 4, none⟩) (by simp)).trans (by go_simp)) | (go_at_call 13; (with_reducible refine (enough_c c _ _ _ _ _ _ _ _ _ _).mono ?_); rintro e w2 ⟨rfl, hb2⟩; obtain ⟨hk2, hf2⟩ := bcell hb2; have hz2 := hb2.size; have c2_0 : w2.cell? ⟨w.heap.size, 0, none⟩ = some (.int .i64 c) := (hb2.cell (p := ⟨w.heap.size, 0, none⟩) hz1).trans c1_0; have c2_1 : w2.cell? ⟨w.heap.size, 1, none⟩ = some (.int .i64 s) := (hb2.cell (p := ⟨w.heap.size, 1, none⟩) hz1).trans c1_1; have c2_2 : w2.cell? ⟨w.heap.size, 2, none⟩ = some (.int .i64 tl) := (hb2.cell (p := ⟨w.heap.size, 2, none⟩) hz1).trans c1_2; have c2_3 : w2.cell? ⟨w.heap.size, 3, none⟩ = some (.int .i64 st) := (hb2.cell (p := ⟨w.heap.size, 3, none⟩) hz1).trans c1_3; have c2_4 : w2.cell? ⟨w.heap.size, 4, none⟩ = some (.int .i64 ca) := (hb2.cell (p := ⟨w.heap.size, 4, none⟩) hz1).trans c1_4))
  go_quiet ((first | (go_at_call 8; exact Calls.quiet_of_same (rcells_c' _ _ _ _ _)) | (go_at_call 10; exact Calls.quiet_of_same (rcompile_c' _ _ _ _ _ _)) | (go_at_call 12; exact Calls.quiet_of_same (rscan_c' _ _ _ _))))
  have c3_0 : (w2.drewN nq).cell? ⟨w.heap.size, 0, none⟩ = some (.int .i64 c) := c2_0
  have c3_1 : (w2.drewN nq).cell? ⟨w.heap.size, 1, none⟩ = some (.int .i64 s) := c2_1
  have c3_2 : (w2.drewN nq).cell? ⟨w.heap.size, 2, none⟩ = some (.int .i64 tl) := c2_2
  have c3_3 : (w2.drewN nq).cell? ⟨w.heap.size, 3, none⟩ = some (.int .i64 st) := c2_3
  have c3_4 : (w2.drewN nq).cell? ⟨w.heap.size, 4, none⟩ = some (.int .i64 ca) := c2_4
  have hb4 : Below w.heap.size w (w2.drewN nq) := (by repeat (first | with_reducible exact Below.refl _ _ | with_reducible refine below_draws ?_ _ | with_reducible refine below_alloc ?_ _ | with_reducible refine below_put ?_ (by simp; omega) _ | with_reducible assumption | (refine below_step ?_ (by assumption))))
  clear hb1 hb2 hk1 hk2 hf1 hf2 hz1 hz2 c2_0 c2_1 c2_2 c2_3 c2_4 c1_0 c1_1 c1_2 c1_3 c1_4
  generalize w2.drewN nq = w4 at c3_0 c3_1 c3_2 c3_3 c3_4 hb4 ⊢
  go_wp2_with (go_at_call 13; (with_reducible refine (enough_c (c + 1) _ _ _ _ _ _ _ _ _ _).mono ?_); rintro e w3 ⟨rfl, hb3⟩)
  go_ret
  exact ⟨rfl, (by repeat (first | with_reducible exact Below.refl _ _ | with_reducible refine below_draws ?_ _ | with_reducible refine below_alloc ?_ _ | with_reducible refine below_put ?_ (by simp; omega) _ | with_reducible assumption | (refine below_step ?_ (by assumption))))⟩
set_option maxHeartbeats 1000000 in
theorem quota_2_2 (c s tl st ca states classes file input : Int) (w : World) (hc : c ≤ 1125899906842624) (hs : s ≤ 1125899906842624) (hc0 : -9223372036854775808 ≤ c) (hs0 : -9223372036854775808 ≤ s) (g1 : cellsZ 2 states classes ca ≤ c) (g2 : ¬ compileZ file 400 states classes st ≤ s) :
    Calls Try.prog 4 #[.agg #[.int .i64 c, .int .i64 s, .int .i64 tl, .int .i64 st, .int .i64 ca], .int .i64 2, .int .i64 states, .int .i64 classes, .int .i64 file, .int .i64 input] w fun e w' => e = .returned (.bool true) ∧ Below w.heap.size w w' := by
  have is1 : enoughZ c s st ca 2 states classes file input = false := decide_eq_false (by rintro ⟨_, _, a, b, d⟩; exact g2 b)
  have d1 : decide (cellsZ 2 states classes ca ≤ c) = true := by simpa using g1
  clear g1
  have d2 : decide (compileZ file 400 states classes st ≤ s) = false := by simpa using g2
  clear g2
  go_enter Try.func4, Try.ntmps4
  go_wp2_with (first | (go_at_call 6; refine (awake_c _).mono ?_; rintro e w1 ⟨rfl, hb1⟩; obtain ⟨hk1, hf1⟩ := bcell hb1; have hz1 : w.heap.size < w1.heap.size := Nat.lt_of_lt_of_le (by simp) hb1.size; have c1_0 : w1.cell? ⟨w.heap.size, 0, none⟩ = some (.int .i64 c) := (hb1.cell (p := ⟨w.heap.size, 0, none⟩) (by simp)).trans (by go_simp); have c1_1 : w1.cell? ⟨w.heap.size, 1, none⟩ = some (.int .i64 s) := (hb1.cell (p := ⟨w.heap.size, 1, none⟩) (by simp)).trans (by go_simp); have c1_2 : w1.cell? ⟨w.heap.size, 2, none⟩ = some (.int .i64 tl) := (hb1.cell (p := ⟨w.heap.size, 2, none⟩) (by simp)).trans (by go_simp); have c1_3 : w1.cell? ⟨w.heap.size, 3, none⟩ = some (.int .i64 st) := (hb1.cell (p := ⟨w.heap.size, 3, none⟩) (by simp)).trans (by go_simp); have c1_4 : w1.cell? ⟨w.heap.size, 4, none⟩ = some (.int .i64 ca) := (hb1.cell (p := ⟨w.heap.size, 4, none⟩) (by simp)).trans (by go_simp)) | (go_at_call 13; (with_reducible refine (enough_c c _ _ _ _ _ _ _ _ _ _).mono ?_); rintro e w2 ⟨rfl, hb2⟩; obtain ⟨hk2, hf2⟩ := bcell hb2; have hz2 := hb2.size; have c2_0 : w2.cell? ⟨w.heap.size, 0, none⟩ = some (.int .i64 c) := (hb2.cell (p := ⟨w.heap.size, 0, none⟩) hz1).trans c1_0; have c2_1 : w2.cell? ⟨w.heap.size, 1, none⟩ = some (.int .i64 s) := (hb2.cell (p := ⟨w.heap.size, 1, none⟩) hz1).trans c1_1; have c2_2 : w2.cell? ⟨w.heap.size, 2, none⟩ = some (.int .i64 tl) := (hb2.cell (p := ⟨w.heap.size, 2, none⟩) hz1).trans c1_2; have c2_3 : w2.cell? ⟨w.heap.size, 3, none⟩ = some (.int .i64 st) := (hb2.cell (p := ⟨w.heap.size, 3, none⟩) hz1).trans c1_3; have c2_4 : w2.cell? ⟨w.heap.size, 4, none⟩ = some (.int .i64 ca) := (hb2.cell (p := ⟨w.heap.size, 4, none⟩) hz1).trans c1_4))
  go_quiet ((first | (go_at_call 8; exact Calls.quiet_of_same (rcells_c' _ _ _ _ _)) | (go_at_call 10; exact Calls.quiet_of_same (rcompile_c' _ _ _ _ _ _)) | (go_at_call 12; exact Calls.quiet_of_same (rscan_c' _ _ _ _))))
  have c3_0 : (w2.drewN nq).cell? ⟨w.heap.size, 0, none⟩ = some (.int .i64 c) := c2_0
  have c3_1 : (w2.drewN nq).cell? ⟨w.heap.size, 1, none⟩ = some (.int .i64 s) := c2_1
  have c3_2 : (w2.drewN nq).cell? ⟨w.heap.size, 2, none⟩ = some (.int .i64 tl) := c2_2
  have c3_3 : (w2.drewN nq).cell? ⟨w.heap.size, 3, none⟩ = some (.int .i64 st) := c2_3
  have c3_4 : (w2.drewN nq).cell? ⟨w.heap.size, 4, none⟩ = some (.int .i64 ca) := c2_4
  have hb4 : Below w.heap.size w (w2.drewN nq) := (by repeat (first | with_reducible exact Below.refl _ _ | with_reducible refine below_draws ?_ _ | with_reducible refine below_alloc ?_ _ | with_reducible refine below_put ?_ (by simp; omega) _ | with_reducible assumption | (refine below_step ?_ (by assumption))))
  clear hb1 hb2 hk1 hk2 hf1 hf2 hz1 hz2 c2_0 c2_1 c2_2 c2_3 c2_4 c1_0 c1_1 c1_2 c1_3 c1_4
  generalize w2.drewN nq = w4 at c3_0 c3_1 c3_2 c3_3 c3_4 hb4 ⊢
  go_wp2_with (go_at_call 13; (with_reducible refine (enough_c (c + 1) _ _ _ _ _ _ _ _ _ _).mono ?_); rintro e w3 ⟨rfl, hb3⟩)
  go_ret
  exact ⟨rfl, (by repeat (first | with_reducible exact Below.refl _ _ | with_reducible refine below_draws ?_ _ | with_reducible refine below_alloc ?_ _ | with_reducible refine below_put ?_ (by simp; omega) _ | with_reducible assumption | (refine below_step ?_ (by assumption))))⟩
set_option maxHeartbeats 1000000 in
theorem quota_2_3 (c s tl st ca states classes file input : Int) (w : World) (hc : c ≤ 1125899906842624) (hs : s ≤ 1125899906842624) (hc0 : -9223372036854775808 ≤ c) (hs0 : -9223372036854775808 ≤ s) (g1 : cellsZ 2 states classes ca ≤ c) (g2 : compileZ file 400 states classes st ≤ s) (g3 : ¬ scanZ 2 states input ≤ s) :
    Calls Try.prog 4 #[.agg #[.int .i64 c, .int .i64 s, .int .i64 tl, .int .i64 st, .int .i64 ca], .int .i64 2, .int .i64 states, .int .i64 classes, .int .i64 file, .int .i64 input] w fun e w' => e = .returned (.bool true) ∧ Below w.heap.size w w' := by
  have is1 : enoughZ c s st ca 2 states classes file input = false := decide_eq_false (by rintro ⟨_, _, a, b, d⟩; exact g3 d)
  have d1 : decide (cellsZ 2 states classes ca ≤ c) = true := by simpa using g1
  clear g1
  have d2 : decide (compileZ file 400 states classes st ≤ s) = true := by simpa using g2
  clear g2
  have d3 : decide (scanZ 2 states input ≤ s) = false := by simpa using g3
  clear g3
  go_enter Try.func4, Try.ntmps4
  go_wp2_with (first | (go_at_call 6; refine (awake_c _).mono ?_; rintro e w1 ⟨rfl, hb1⟩; obtain ⟨hk1, hf1⟩ := bcell hb1; have hz1 : w.heap.size < w1.heap.size := Nat.lt_of_lt_of_le (by simp) hb1.size; have c1_0 : w1.cell? ⟨w.heap.size, 0, none⟩ = some (.int .i64 c) := (hb1.cell (p := ⟨w.heap.size, 0, none⟩) (by simp)).trans (by go_simp); have c1_1 : w1.cell? ⟨w.heap.size, 1, none⟩ = some (.int .i64 s) := (hb1.cell (p := ⟨w.heap.size, 1, none⟩) (by simp)).trans (by go_simp); have c1_2 : w1.cell? ⟨w.heap.size, 2, none⟩ = some (.int .i64 tl) := (hb1.cell (p := ⟨w.heap.size, 2, none⟩) (by simp)).trans (by go_simp); have c1_3 : w1.cell? ⟨w.heap.size, 3, none⟩ = some (.int .i64 st) := (hb1.cell (p := ⟨w.heap.size, 3, none⟩) (by simp)).trans (by go_simp); have c1_4 : w1.cell? ⟨w.heap.size, 4, none⟩ = some (.int .i64 ca) := (hb1.cell (p := ⟨w.heap.size, 4, none⟩) (by simp)).trans (by go_simp)) | (go_at_call 13; (with_reducible refine (enough_c c _ _ _ _ _ _ _ _ _ _).mono ?_); rintro e w2 ⟨rfl, hb2⟩; obtain ⟨hk2, hf2⟩ := bcell hb2; have hz2 := hb2.size; have c2_0 : w2.cell? ⟨w.heap.size, 0, none⟩ = some (.int .i64 c) := (hb2.cell (p := ⟨w.heap.size, 0, none⟩) hz1).trans c1_0; have c2_1 : w2.cell? ⟨w.heap.size, 1, none⟩ = some (.int .i64 s) := (hb2.cell (p := ⟨w.heap.size, 1, none⟩) hz1).trans c1_1; have c2_2 : w2.cell? ⟨w.heap.size, 2, none⟩ = some (.int .i64 tl) := (hb2.cell (p := ⟨w.heap.size, 2, none⟩) hz1).trans c1_2; have c2_3 : w2.cell? ⟨w.heap.size, 3, none⟩ = some (.int .i64 st) := (hb2.cell (p := ⟨w.heap.size, 3, none⟩) hz1).trans c1_3; have c2_4 : w2.cell? ⟨w.heap.size, 4, none⟩ = some (.int .i64 ca) := (hb2.cell (p := ⟨w.heap.size, 4, none⟩) hz1).trans c1_4))
  go_quiet ((first | (go_at_call 8; exact Calls.quiet_of_same (rcells_c' _ _ _ _ _)) | (go_at_call 10; exact Calls.quiet_of_same (rcompile_c' _ _ _ _ _ _)) | (go_at_call 12; exact Calls.quiet_of_same (rscan_c' _ _ _ _))))
  have c3_0 : (w2.drewN nq).cell? ⟨w.heap.size, 0, none⟩ = some (.int .i64 c) := c2_0
  have c3_1 : (w2.drewN nq).cell? ⟨w.heap.size, 1, none⟩ = some (.int .i64 s) := c2_1
  have c3_2 : (w2.drewN nq).cell? ⟨w.heap.size, 2, none⟩ = some (.int .i64 tl) := c2_2
  have c3_3 : (w2.drewN nq).cell? ⟨w.heap.size, 3, none⟩ = some (.int .i64 st) := c2_3
  have c3_4 : (w2.drewN nq).cell? ⟨w.heap.size, 4, none⟩ = some (.int .i64 ca) := c2_4
  have hb4 : Below w.heap.size w (w2.drewN nq) := (by repeat (first | with_reducible exact Below.refl _ _ | with_reducible refine below_draws ?_ _ | with_reducible refine below_alloc ?_ _ | with_reducible refine below_put ?_ (by simp; omega) _ | with_reducible assumption | (refine below_step ?_ (by assumption))))
  clear hb1 hb2 hk1 hk2 hf1 hf2 hz1 hz2 c2_0 c2_1 c2_2 c2_3 c2_4 c1_0 c1_1 c1_2 c1_3 c1_4
  generalize w2.drewN nq = w4 at c3_0 c3_1 c3_2 c3_3 c3_4 hb4 ⊢
  go_wp2_with (go_at_call 13; (with_reducible refine (enough_c (c + 1) _ _ _ _ _ _ _ _ _ _).mono ?_); rintro e w3 ⟨rfl, hb3⟩)
  go_ret
  exact ⟨rfl, (by repeat (first | with_reducible exact Below.refl _ _ | with_reducible refine below_draws ?_ _ | with_reducible refine below_alloc ?_ _ | with_reducible refine below_put ?_ (by simp; omega) _ | with_reducible assumption | (refine below_step ?_ (by assumption))))⟩
set_option maxHeartbeats 1000000 in
theorem quota_3_0 (c s tl st ca states classes file input : Int) (w : World) (hc : c ≤ 1125899906842624) (hs : s ≤ 1125899906842624) (hc0 : -9223372036854775808 ≤ c) (hs0 : -9223372036854775808 ≤ s) (g1 : cellsZ 3 states classes 0 ≤ c) (g2 : compileZ file 400 states classes st ≤ s) (g3 : scanZ 3 states input ≤ s) :
    Calls Try.prog 4 #[.agg #[.int .i64 c, .int .i64 s, .int .i64 tl, .int .i64 st, .int .i64 ca], .int .i64 3, .int .i64 states, .int .i64 classes, .int .i64 file, .int .i64 input] w fun e w' => e = .returned (.bool true) ∧ Below w.heap.size w w' := by
  have is1 : enoughZ c s st ca 3 states classes file input = true := decide_eq_true ⟨by decide, by decide, g1, g2, g3⟩
  have is2 : enoughZ (c + 1) (s + 1) st ca 3 states classes file input = true := decide_eq_true ⟨by decide, by decide, Int.le_trans g1 (by omega), Int.le_trans g2 (by omega), Int.le_trans g3 (by omega)⟩
  have d1 : decide (cellsZ 3 states classes 0 ≤ c) = true := by simpa using g1
  clear g1
  have d2 : decide (compileZ file 400 states classes st ≤ s) = true := by simpa using g2
  clear g2
  have d3 : decide (scanZ 3 states input ≤ s) = true := by simpa using g3
  clear g3
  go_enter Try.func4, Try.ntmps4
  go_wp2_with (first | (go_at_call 6; refine (awake_c _).mono ?_; rintro e w1 ⟨rfl, hb1⟩; obtain ⟨hk1, hf1⟩ := bcell hb1; have hz1 : w.heap.size < w1.heap.size := Nat.lt_of_lt_of_le (by simp) hb1.size; have c1_0 : w1.cell? ⟨w.heap.size, 0, none⟩ = some (.int .i64 c) := (hb1.cell (p := ⟨w.heap.size, 0, none⟩) (by simp)).trans (by go_simp); have c1_1 : w1.cell? ⟨w.heap.size, 1, none⟩ = some (.int .i64 s) := (hb1.cell (p := ⟨w.heap.size, 1, none⟩) (by simp)).trans (by go_simp); have c1_2 : w1.cell? ⟨w.heap.size, 2, none⟩ = some (.int .i64 tl) := (hb1.cell (p := ⟨w.heap.size, 2, none⟩) (by simp)).trans (by go_simp); have c1_3 : w1.cell? ⟨w.heap.size, 3, none⟩ = some (.int .i64 st) := (hb1.cell (p := ⟨w.heap.size, 3, none⟩) (by simp)).trans (by go_simp); have c1_4 : w1.cell? ⟨w.heap.size, 4, none⟩ = some (.int .i64 ca) := (hb1.cell (p := ⟨w.heap.size, 4, none⟩) (by simp)).trans (by go_simp)) | (go_at_call 13; (with_reducible refine (enough_c c _ _ _ _ _ _ _ _ _ _).mono ?_); rintro e w2 ⟨rfl, hb2⟩; obtain ⟨hk2, hf2⟩ := bcell hb2; have hz2 := hb2.size; have c2_0 : w2.cell? ⟨w.heap.size, 0, none⟩ = some (.int .i64 c) := (hb2.cell (p := ⟨w.heap.size, 0, none⟩) hz1).trans c1_0; have c2_1 : w2.cell? ⟨w.heap.size, 1, none⟩ = some (.int .i64 s) := (hb2.cell (p := ⟨w.heap.size, 1, none⟩) hz1).trans c1_1; have c2_2 : w2.cell? ⟨w.heap.size, 2, none⟩ = some (.int .i64 tl) := (hb2.cell (p := ⟨w.heap.size, 2, none⟩) hz1).trans c1_2; have c2_3 : w2.cell? ⟨w.heap.size, 3, none⟩ = some (.int .i64 st) := (hb2.cell (p := ⟨w.heap.size, 3, none⟩) hz1).trans c1_3; have c2_4 : w2.cell? ⟨w.heap.size, 4, none⟩ = some (.int .i64 ca) := (hb2.cell (p := ⟨w.heap.size, 4, none⟩) hz1).trans c1_4))
  go_quiet ((first | (go_at_call 8; exact Calls.quiet_of_same (rcells_c' _ _ _ _ _)) | (go_at_call 10; exact Calls.quiet_of_same (rcompile_c' _ _ _ _ _ _)) | (go_at_call 12; exact Calls.quiet_of_same (rscan_c' _ _ _ _))))
  have c3_0 : (w2.drewN nq).cell? ⟨w.heap.size, 0, none⟩ = some (.int .i64 c) := c2_0
  have c3_1 : (w2.drewN nq).cell? ⟨w.heap.size, 1, none⟩ = some (.int .i64 s) := c2_1
  have c3_2 : (w2.drewN nq).cell? ⟨w.heap.size, 2, none⟩ = some (.int .i64 tl) := c2_2
  have c3_3 : (w2.drewN nq).cell? ⟨w.heap.size, 3, none⟩ = some (.int .i64 st) := c2_3
  have c3_4 : (w2.drewN nq).cell? ⟨w.heap.size, 4, none⟩ = some (.int .i64 ca) := c2_4
  have hb4 : Below w.heap.size w (w2.drewN nq) := (by repeat (first | with_reducible exact Below.refl _ _ | with_reducible refine below_draws ?_ _ | with_reducible refine below_alloc ?_ _ | with_reducible refine below_put ?_ (by simp; omega) _ | with_reducible assumption | (refine below_step ?_ (by assumption))))
  clear hb1 hb2 hk1 hk2 hf1 hf2 hz1 hz2 c2_0 c2_1 c2_2 c2_3 c2_4 c1_0 c1_1 c1_2 c1_3 c1_4
  generalize w2.drewN nq = w4 at c3_0 c3_1 c3_2 c3_3 c3_4 hb4 ⊢
  go_wp2_with (go_at_call 13; (with_reducible refine (enough_c (c + 1) _ _ _ _ _ _ _ _ _ _).mono ?_); rintro e w3 ⟨rfl, hb3⟩)
  go_ret
  exact ⟨rfl, (by repeat (first | with_reducible exact Below.refl _ _ | with_reducible refine below_draws ?_ _ | with_reducible refine below_alloc ?_ _ | with_reducible refine below_put ?_ (by simp; omega) _ | with_reducible assumption | (refine below_step ?_ (by assumption))))⟩
set_option maxHeartbeats 1000000 in
theorem quota_3_1 (c s tl st ca states classes file input : Int) (w : World) (hc : c ≤ 1125899906842624) (hs : s ≤ 1125899906842624) (hc0 : -9223372036854775808 ≤ c) (hs0 : -9223372036854775808 ≤ s) (g1 : ¬ cellsZ 3 states classes 0 ≤ c) :
    Calls Try.prog 4 #[.agg #[.int .i64 c, .int .i64 s, .int .i64 tl, .int .i64 st, .int .i64 ca], .int .i64 3, .int .i64 states, .int .i64 classes, .int .i64 file, .int .i64 input] w fun e w' => e = .returned (.bool true) ∧ Below w.heap.size w w' := by
  have is1 : enoughZ c s st ca 3 states classes file input = false := decide_eq_false (by rintro ⟨_, _, a, b, d⟩; exact g1 a)
  have d1 : decide (cellsZ 3 states classes 0 ≤ c) = false := by simpa using g1
  clear g1
  go_enter Try.func4, Try.ntmps4
  go_wp2_with (first | (go_at_call 6; refine (awake_c _).mono ?_; rintro e w1 ⟨rfl, hb1⟩; obtain ⟨hk1, hf1⟩ := bcell hb1; have hz1 : w.heap.size < w1.heap.size := Nat.lt_of_lt_of_le (by simp) hb1.size; have c1_0 : w1.cell? ⟨w.heap.size, 0, none⟩ = some (.int .i64 c) := (hb1.cell (p := ⟨w.heap.size, 0, none⟩) (by simp)).trans (by go_simp); have c1_1 : w1.cell? ⟨w.heap.size, 1, none⟩ = some (.int .i64 s) := (hb1.cell (p := ⟨w.heap.size, 1, none⟩) (by simp)).trans (by go_simp); have c1_2 : w1.cell? ⟨w.heap.size, 2, none⟩ = some (.int .i64 tl) := (hb1.cell (p := ⟨w.heap.size, 2, none⟩) (by simp)).trans (by go_simp); have c1_3 : w1.cell? ⟨w.heap.size, 3, none⟩ = some (.int .i64 st) := (hb1.cell (p := ⟨w.heap.size, 3, none⟩) (by simp)).trans (by go_simp); have c1_4 : w1.cell? ⟨w.heap.size, 4, none⟩ = some (.int .i64 ca) := (hb1.cell (p := ⟨w.heap.size, 4, none⟩) (by simp)).trans (by go_simp)) | (go_at_call 13; (with_reducible refine (enough_c c _ _ _ _ _ _ _ _ _ _).mono ?_); rintro e w2 ⟨rfl, hb2⟩; obtain ⟨hk2, hf2⟩ := bcell hb2; have hz2 := hb2.size; have c2_0 : w2.cell? ⟨w.heap.size, 0, none⟩ = some (.int .i64 c) := (hb2.cell (p := ⟨w.heap.size, 0, none⟩) hz1).trans c1_0; have c2_1 : w2.cell? ⟨w.heap.size, 1, none⟩ = some (.int .i64 s) := (hb2.cell (p := ⟨w.heap.size, 1, none⟩) hz1).trans c1_1; have c2_2 : w2.cell? ⟨w.heap.size, 2, none⟩ = some (.int .i64 tl) := (hb2.cell (p := ⟨w.heap.size, 2, none⟩) hz1).trans c1_2; have c2_3 : w2.cell? ⟨w.heap.size, 3, none⟩ = some (.int .i64 st) := (hb2.cell (p := ⟨w.heap.size, 3, none⟩) hz1).trans c1_3; have c2_4 : w2.cell? ⟨w.heap.size, 4, none⟩ = some (.int .i64 ca) := (hb2.cell (p := ⟨w.heap.size, 4, none⟩) hz1).trans c1_4))
  go_quiet ((first | (go_at_call 8; exact Calls.quiet_of_same (rcells_c' _ _ _ _ _)) | (go_at_call 10; exact Calls.quiet_of_same (rcompile_c' _ _ _ _ _ _)) | (go_at_call 12; exact Calls.quiet_of_same (rscan_c' _ _ _ _))))
  have c3_0 : (w2.drewN nq).cell? ⟨w.heap.size, 0, none⟩ = some (.int .i64 c) := c2_0
  have c3_1 : (w2.drewN nq).cell? ⟨w.heap.size, 1, none⟩ = some (.int .i64 s) := c2_1
  have c3_2 : (w2.drewN nq).cell? ⟨w.heap.size, 2, none⟩ = some (.int .i64 tl) := c2_2
  have c3_3 : (w2.drewN nq).cell? ⟨w.heap.size, 3, none⟩ = some (.int .i64 st) := c2_3
  have c3_4 : (w2.drewN nq).cell? ⟨w.heap.size, 4, none⟩ = some (.int .i64 ca) := c2_4
  have hb4 : Below w.heap.size w (w2.drewN nq) := (by repeat (first | with_reducible exact Below.refl _ _ | with_reducible refine below_draws ?_ _ | with_reducible refine below_alloc ?_ _ | with_reducible refine below_put ?_ (by simp; omega) _ | with_reducible assumption | (refine below_step ?_ (by assumption))))
  clear hb1 hb2 hk1 hk2 hf1 hf2 hz1 hz2 c2_0 c2_1 c2_2 c2_3 c2_4 c1_0 c1_1 c1_2 c1_3 c1_4
  generalize w2.drewN nq = w4 at c3_0 c3_1 c3_2 c3_3 c3_4 hb4 ⊢
  go_wp2_with (go_at_call 13; (with_reducible refine (enough_c (c + 1) _ _ _ _ _ _ _ _ _ _).mono ?_); rintro e w3 ⟨rfl, hb3⟩)
  go_ret
  exact ⟨rfl, (by repeat (first | with_reducible exact Below.refl _ _ | with_reducible refine below_draws ?_ _ | with_reducible refine below_alloc ?_ _ | with_reducible refine below_put ?_ (by simp; omega) _ | with_reducible assumption | (refine below_step ?_ (by assumption))))⟩
set_option maxHeartbeats 1000000 in
theorem quota_3_2 (c s tl st ca states classes file input : Int) (w : World) (hc : c ≤ 1125899906842624) (hs : s ≤ 1125899906842624) (hc0 : -9223372036854775808 ≤ c) (hs0 : -9223372036854775808 ≤ s) (g1 : cellsZ 3 states classes 0 ≤ c) (g2 : ¬ compileZ file 400 states classes st ≤ s) :
    Calls Try.prog 4 #[.agg #[.int .i64 c, .int .i64 s, .int .i64 tl, .int .i64 st, .int .i64 ca], .int .i64 3, .int .i64 states, .int .i64 classes, .int .i64 file, .int .i64 input] w fun e w' => e = .returned (.bool true) ∧ Below w.heap.size w w' := by
  have is1 : enoughZ c s st ca 3 states classes file input = false := decide_eq_false (by rintro ⟨_, _, a, b, d⟩; exact g2 b)
  have d1 : decide (cellsZ 3 states classes 0 ≤ c) = true := by simpa using g1
  clear g1
  have d2 : decide (compileZ file 400 states classes st ≤ s) = false := by simpa using g2
  clear g2
  go_enter Try.func4, Try.ntmps4
  go_wp2_with (first | (go_at_call 6; refine (awake_c _).mono ?_; rintro e w1 ⟨rfl, hb1⟩; obtain ⟨hk1, hf1⟩ := bcell hb1; have hz1 : w.heap.size < w1.heap.size := Nat.lt_of_lt_of_le (by simp) hb1.size; have c1_0 : w1.cell? ⟨w.heap.size, 0, none⟩ = some (.int .i64 c) := (hb1.cell (p := ⟨w.heap.size, 0, none⟩) (by simp)).trans (by go_simp); have c1_1 : w1.cell? ⟨w.heap.size, 1, none⟩ = some (.int .i64 s) := (hb1.cell (p := ⟨w.heap.size, 1, none⟩) (by simp)).trans (by go_simp); have c1_2 : w1.cell? ⟨w.heap.size, 2, none⟩ = some (.int .i64 tl) := (hb1.cell (p := ⟨w.heap.size, 2, none⟩) (by simp)).trans (by go_simp); have c1_3 : w1.cell? ⟨w.heap.size, 3, none⟩ = some (.int .i64 st) := (hb1.cell (p := ⟨w.heap.size, 3, none⟩) (by simp)).trans (by go_simp); have c1_4 : w1.cell? ⟨w.heap.size, 4, none⟩ = some (.int .i64 ca) := (hb1.cell (p := ⟨w.heap.size, 4, none⟩) (by simp)).trans (by go_simp)) | (go_at_call 13; (with_reducible refine (enough_c c _ _ _ _ _ _ _ _ _ _).mono ?_); rintro e w2 ⟨rfl, hb2⟩; obtain ⟨hk2, hf2⟩ := bcell hb2; have hz2 := hb2.size; have c2_0 : w2.cell? ⟨w.heap.size, 0, none⟩ = some (.int .i64 c) := (hb2.cell (p := ⟨w.heap.size, 0, none⟩) hz1).trans c1_0; have c2_1 : w2.cell? ⟨w.heap.size, 1, none⟩ = some (.int .i64 s) := (hb2.cell (p := ⟨w.heap.size, 1, none⟩) hz1).trans c1_1; have c2_2 : w2.cell? ⟨w.heap.size, 2, none⟩ = some (.int .i64 tl) := (hb2.cell (p := ⟨w.heap.size, 2, none⟩) hz1).trans c1_2; have c2_3 : w2.cell? ⟨w.heap.size, 3, none⟩ = some (.int .i64 st) := (hb2.cell (p := ⟨w.heap.size, 3, none⟩) hz1).trans c1_3; have c2_4 : w2.cell? ⟨w.heap.size, 4, none⟩ = some (.int .i64 ca) := (hb2.cell (p := ⟨w.heap.size, 4, none⟩) hz1).trans c1_4))
  go_quiet ((first | (go_at_call 8; exact Calls.quiet_of_same (rcells_c' _ _ _ _ _)) | (go_at_call 10; exact Calls.quiet_of_same (rcompile_c' _ _ _ _ _ _)) | (go_at_call 12; exact Calls.quiet_of_same (rscan_c' _ _ _ _))))
  have c3_0 : (w2.drewN nq).cell? ⟨w.heap.size, 0, none⟩ = some (.int .i64 c) := c2_0
  have c3_1 : (w2.drewN nq).cell? ⟨w.heap.size, 1, none⟩ = some (.int .i64 s) := c2_1
  have c3_2 : (w2.drewN nq).cell? ⟨w.heap.size, 2, none⟩ = some (.int .i64 tl) := c2_2
  have c3_3 : (w2.drewN nq).cell? ⟨w.heap.size, 3, none⟩ = some (.int .i64 st) := c2_3
  have c3_4 : (w2.drewN nq).cell? ⟨w.heap.size, 4, none⟩ = some (.int .i64 ca) := c2_4
  have hb4 : Below w.heap.size w (w2.drewN nq) := (by repeat (first | with_reducible exact Below.refl _ _ | with_reducible refine below_draws ?_ _ | with_reducible refine below_alloc ?_ _ | with_reducible refine below_put ?_ (by simp; omega) _ | with_reducible assumption | (refine below_step ?_ (by assumption))))
  clear hb1 hb2 hk1 hk2 hf1 hf2 hz1 hz2 c2_0 c2_1 c2_2 c2_3 c2_4 c1_0 c1_1 c1_2 c1_3 c1_4
  generalize w2.drewN nq = w4 at c3_0 c3_1 c3_2 c3_3 c3_4 hb4 ⊢
  go_wp2_with (go_at_call 13; (with_reducible refine (enough_c (c + 1) _ _ _ _ _ _ _ _ _ _).mono ?_); rintro e w3 ⟨rfl, hb3⟩)
  go_ret
  exact ⟨rfl, (by repeat (first | with_reducible exact Below.refl _ _ | with_reducible refine below_draws ?_ _ | with_reducible refine below_alloc ?_ _ | with_reducible refine below_put ?_ (by simp; omega) _ | with_reducible assumption | (refine below_step ?_ (by assumption))))⟩
set_option maxHeartbeats 1000000 in
theorem quota_3_3 (c s tl st ca states classes file input : Int) (w : World) (hc : c ≤ 1125899906842624) (hs : s ≤ 1125899906842624) (hc0 : -9223372036854775808 ≤ c) (hs0 : -9223372036854775808 ≤ s) (g1 : cellsZ 3 states classes 0 ≤ c) (g2 : compileZ file 400 states classes st ≤ s) (g3 : ¬ scanZ 3 states input ≤ s) :
    Calls Try.prog 4 #[.agg #[.int .i64 c, .int .i64 s, .int .i64 tl, .int .i64 st, .int .i64 ca], .int .i64 3, .int .i64 states, .int .i64 classes, .int .i64 file, .int .i64 input] w fun e w' => e = .returned (.bool true) ∧ Below w.heap.size w w' := by
  have is1 : enoughZ c s st ca 3 states classes file input = false := decide_eq_false (by rintro ⟨_, _, a, b, d⟩; exact g3 d)
  have d1 : decide (cellsZ 3 states classes 0 ≤ c) = true := by simpa using g1
  clear g1
  have d2 : decide (compileZ file 400 states classes st ≤ s) = true := by simpa using g2
  clear g2
  have d3 : decide (scanZ 3 states input ≤ s) = false := by simpa using g3
  clear g3
  go_enter Try.func4, Try.ntmps4
  go_wp2_with (first | (go_at_call 6; refine (awake_c _).mono ?_; rintro e w1 ⟨rfl, hb1⟩; obtain ⟨hk1, hf1⟩ := bcell hb1; have hz1 : w.heap.size < w1.heap.size := Nat.lt_of_lt_of_le (by simp) hb1.size; have c1_0 : w1.cell? ⟨w.heap.size, 0, none⟩ = some (.int .i64 c) := (hb1.cell (p := ⟨w.heap.size, 0, none⟩) (by simp)).trans (by go_simp); have c1_1 : w1.cell? ⟨w.heap.size, 1, none⟩ = some (.int .i64 s) := (hb1.cell (p := ⟨w.heap.size, 1, none⟩) (by simp)).trans (by go_simp); have c1_2 : w1.cell? ⟨w.heap.size, 2, none⟩ = some (.int .i64 tl) := (hb1.cell (p := ⟨w.heap.size, 2, none⟩) (by simp)).trans (by go_simp); have c1_3 : w1.cell? ⟨w.heap.size, 3, none⟩ = some (.int .i64 st) := (hb1.cell (p := ⟨w.heap.size, 3, none⟩) (by simp)).trans (by go_simp); have c1_4 : w1.cell? ⟨w.heap.size, 4, none⟩ = some (.int .i64 ca) := (hb1.cell (p := ⟨w.heap.size, 4, none⟩) (by simp)).trans (by go_simp)) | (go_at_call 13; (with_reducible refine (enough_c c _ _ _ _ _ _ _ _ _ _).mono ?_); rintro e w2 ⟨rfl, hb2⟩; obtain ⟨hk2, hf2⟩ := bcell hb2; have hz2 := hb2.size; have c2_0 : w2.cell? ⟨w.heap.size, 0, none⟩ = some (.int .i64 c) := (hb2.cell (p := ⟨w.heap.size, 0, none⟩) hz1).trans c1_0; have c2_1 : w2.cell? ⟨w.heap.size, 1, none⟩ = some (.int .i64 s) := (hb2.cell (p := ⟨w.heap.size, 1, none⟩) hz1).trans c1_1; have c2_2 : w2.cell? ⟨w.heap.size, 2, none⟩ = some (.int .i64 tl) := (hb2.cell (p := ⟨w.heap.size, 2, none⟩) hz1).trans c1_2; have c2_3 : w2.cell? ⟨w.heap.size, 3, none⟩ = some (.int .i64 st) := (hb2.cell (p := ⟨w.heap.size, 3, none⟩) hz1).trans c1_3; have c2_4 : w2.cell? ⟨w.heap.size, 4, none⟩ = some (.int .i64 ca) := (hb2.cell (p := ⟨w.heap.size, 4, none⟩) hz1).trans c1_4))
  go_quiet ((first | (go_at_call 8; exact Calls.quiet_of_same (rcells_c' _ _ _ _ _)) | (go_at_call 10; exact Calls.quiet_of_same (rcompile_c' _ _ _ _ _ _)) | (go_at_call 12; exact Calls.quiet_of_same (rscan_c' _ _ _ _))))
  have c3_0 : (w2.drewN nq).cell? ⟨w.heap.size, 0, none⟩ = some (.int .i64 c) := c2_0
  have c3_1 : (w2.drewN nq).cell? ⟨w.heap.size, 1, none⟩ = some (.int .i64 s) := c2_1
  have c3_2 : (w2.drewN nq).cell? ⟨w.heap.size, 2, none⟩ = some (.int .i64 tl) := c2_2
  have c3_3 : (w2.drewN nq).cell? ⟨w.heap.size, 3, none⟩ = some (.int .i64 st) := c2_3
  have c3_4 : (w2.drewN nq).cell? ⟨w.heap.size, 4, none⟩ = some (.int .i64 ca) := c2_4
  have hb4 : Below w.heap.size w (w2.drewN nq) := (by repeat (first | with_reducible exact Below.refl _ _ | with_reducible refine below_draws ?_ _ | with_reducible refine below_alloc ?_ _ | with_reducible refine below_put ?_ (by simp; omega) _ | with_reducible assumption | (refine below_step ?_ (by assumption))))
  clear hb1 hb2 hk1 hk2 hf1 hf2 hz1 hz2 c2_0 c2_1 c2_2 c2_3 c2_4 c1_0 c1_1 c1_2 c1_3 c1_4
  generalize w2.drewN nq = w4 at c3_0 c3_1 c3_2 c3_3 c3_4 hb4 ⊢
  go_wp2_with (go_at_call 13; (with_reducible refine (enough_c (c + 1) _ _ _ _ _ _ _ _ _ _).mono ?_); rintro e w3 ⟨rfl, hb3⟩)
  go_ret
  exact ⟨rfl, (by repeat (first | with_reducible exact Below.refl _ _ | with_reducible refine below_draws ?_ _ | with_reducible refine below_alloc ?_ _ | with_reducible refine below_put ?_ (by simp; omega) _ | with_reducible assumption | (refine below_step ?_ (by assumption))))⟩
set_option maxHeartbeats 1000000 in
theorem quota_no (c s tl st ca engine states classes file input : Int) (w : World) (hc : c ≤ 1125899906842624) (hs : s ≤ 1125899906842624) (hc0 : -9223372036854775808 ≤ c) (hs0 : -9223372036854775808 ≤ s) (h : engine < 1 ∨ 3 < engine) :
    Calls Try.prog 4 #[.agg #[.int .i64 c, .int .i64 s, .int .i64 tl, .int .i64 st, .int .i64 ca], .int .i64 engine, .int .i64 states, .int .i64 classes, .int .i64 file, .int .i64 input] w fun e w' => e = .returned (.bool true) ∧ Below w.heap.size w w' := by
  have is1 : enoughZ c s st ca engine states classes file input = false := decide_eq_false (by rintro ⟨a, b, _⟩; omega)
  have b1 : (engine == 1) = false := beq_eq_false_iff_ne.mpr (by omega)
  have b2 : (engine == 2) = false := beq_eq_false_iff_ne.mpr (by omega)
  by_cases h1 : engine < 1
  · have d1 : decide (1 ≤ engine) = false := by simpa using h1
    clear h h1
    go_enter Try.func4, Try.ntmps4
    go_wp2_with (first | (go_at_call 6; refine (awake_c _).mono ?_; rintro e w1 ⟨rfl, hb1⟩; obtain ⟨hk1, hf1⟩ := bcell hb1; have hz1 : w.heap.size < w1.heap.size := Nat.lt_of_lt_of_le (by simp) hb1.size; have c1_0 : w1.cell? ⟨w.heap.size, 0, none⟩ = some (.int .i64 c) := (hb1.cell (p := ⟨w.heap.size, 0, none⟩) (by simp)).trans (by go_simp); have c1_1 : w1.cell? ⟨w.heap.size, 1, none⟩ = some (.int .i64 s) := (hb1.cell (p := ⟨w.heap.size, 1, none⟩) (by simp)).trans (by go_simp); have c1_2 : w1.cell? ⟨w.heap.size, 2, none⟩ = some (.int .i64 tl) := (hb1.cell (p := ⟨w.heap.size, 2, none⟩) (by simp)).trans (by go_simp); have c1_3 : w1.cell? ⟨w.heap.size, 3, none⟩ = some (.int .i64 st) := (hb1.cell (p := ⟨w.heap.size, 3, none⟩) (by simp)).trans (by go_simp); have c1_4 : w1.cell? ⟨w.heap.size, 4, none⟩ = some (.int .i64 ca) := (hb1.cell (p := ⟨w.heap.size, 4, none⟩) (by simp)).trans (by go_simp)) | (go_at_call 13; (with_reducible refine (enough_c c _ _ _ _ _ _ _ _ _ _).mono ?_); rintro e w2 ⟨rfl, hb2⟩; obtain ⟨hk2, hf2⟩ := bcell hb2; have hz2 := hb2.size; have c2_0 : w2.cell? ⟨w.heap.size, 0, none⟩ = some (.int .i64 c) := (hb2.cell (p := ⟨w.heap.size, 0, none⟩) hz1).trans c1_0; have c2_1 : w2.cell? ⟨w.heap.size, 1, none⟩ = some (.int .i64 s) := (hb2.cell (p := ⟨w.heap.size, 1, none⟩) hz1).trans c1_1; have c2_2 : w2.cell? ⟨w.heap.size, 2, none⟩ = some (.int .i64 tl) := (hb2.cell (p := ⟨w.heap.size, 2, none⟩) hz1).trans c1_2; have c2_3 : w2.cell? ⟨w.heap.size, 3, none⟩ = some (.int .i64 st) := (hb2.cell (p := ⟨w.heap.size, 3, none⟩) hz1).trans c1_3; have c2_4 : w2.cell? ⟨w.heap.size, 4, none⟩ = some (.int .i64 ca) := (hb2.cell (p := ⟨w.heap.size, 4, none⟩) hz1).trans c1_4))
    go_quiet ((first | (go_at_call 8; exact Calls.quiet_of_same (rcells_c' _ _ _ _ _)) | (go_at_call 10; exact Calls.quiet_of_same (rcompile_c' _ _ _ _ _ _)) | (go_at_call 12; exact Calls.quiet_of_same (rscan_c' _ _ _ _))))
    have c3_0 : (w2.drewN nq).cell? ⟨w.heap.size, 0, none⟩ = some (.int .i64 c) := c2_0
    have c3_1 : (w2.drewN nq).cell? ⟨w.heap.size, 1, none⟩ = some (.int .i64 s) := c2_1
    have c3_2 : (w2.drewN nq).cell? ⟨w.heap.size, 2, none⟩ = some (.int .i64 tl) := c2_2
    have c3_3 : (w2.drewN nq).cell? ⟨w.heap.size, 3, none⟩ = some (.int .i64 st) := c2_3
    have c3_4 : (w2.drewN nq).cell? ⟨w.heap.size, 4, none⟩ = some (.int .i64 ca) := c2_4
    have hb4 : Below w.heap.size w (w2.drewN nq) := (by repeat (first | with_reducible exact Below.refl _ _ | with_reducible refine below_draws ?_ _ | with_reducible refine below_alloc ?_ _ | with_reducible refine below_put ?_ (by simp; omega) _ | with_reducible assumption | (refine below_step ?_ (by assumption))))
    clear hb1 hb2 hk1 hk2 hf1 hf2 hz1 hz2 c2_0 c2_1 c2_2 c2_3 c2_4 c1_0 c1_1 c1_2 c1_3 c1_4
    generalize w2.drewN nq = w4 at c3_0 c3_1 c3_2 c3_3 c3_4 hb4 ⊢
    go_wp2_with (go_at_call 13; (with_reducible refine (enough_c (c + 1) _ _ _ _ _ _ _ _ _ _).mono ?_); rintro e w3 ⟨rfl, hb3⟩)
    go_ret
    exact ⟨rfl, (by repeat (first | with_reducible exact Below.refl _ _ | with_reducible refine below_draws ?_ _ | with_reducible refine below_alloc ?_ _ | with_reducible refine below_put ?_ (by simp; omega) _ | with_reducible assumption | (refine below_step ?_ (by assumption))))⟩
  · have d1 : decide (1 ≤ engine) = true := by simpa using h1
    have d2 : decide (engine ≤ 3) = false := by simp; omega
    clear h h1
    go_enter Try.func4, Try.ntmps4
    go_wp2_with (first | (go_at_call 6; refine (awake_c _).mono ?_; rintro e w1 ⟨rfl, hb1⟩; obtain ⟨hk1, hf1⟩ := bcell hb1; have hz1 : w.heap.size < w1.heap.size := Nat.lt_of_lt_of_le (by simp) hb1.size; have c1_0 : w1.cell? ⟨w.heap.size, 0, none⟩ = some (.int .i64 c) := (hb1.cell (p := ⟨w.heap.size, 0, none⟩) (by simp)).trans (by go_simp); have c1_1 : w1.cell? ⟨w.heap.size, 1, none⟩ = some (.int .i64 s) := (hb1.cell (p := ⟨w.heap.size, 1, none⟩) (by simp)).trans (by go_simp); have c1_2 : w1.cell? ⟨w.heap.size, 2, none⟩ = some (.int .i64 tl) := (hb1.cell (p := ⟨w.heap.size, 2, none⟩) (by simp)).trans (by go_simp); have c1_3 : w1.cell? ⟨w.heap.size, 3, none⟩ = some (.int .i64 st) := (hb1.cell (p := ⟨w.heap.size, 3, none⟩) (by simp)).trans (by go_simp); have c1_4 : w1.cell? ⟨w.heap.size, 4, none⟩ = some (.int .i64 ca) := (hb1.cell (p := ⟨w.heap.size, 4, none⟩) (by simp)).trans (by go_simp)) | (go_at_call 13; (with_reducible refine (enough_c c _ _ _ _ _ _ _ _ _ _).mono ?_); rintro e w2 ⟨rfl, hb2⟩; obtain ⟨hk2, hf2⟩ := bcell hb2; have hz2 := hb2.size; have c2_0 : w2.cell? ⟨w.heap.size, 0, none⟩ = some (.int .i64 c) := (hb2.cell (p := ⟨w.heap.size, 0, none⟩) hz1).trans c1_0; have c2_1 : w2.cell? ⟨w.heap.size, 1, none⟩ = some (.int .i64 s) := (hb2.cell (p := ⟨w.heap.size, 1, none⟩) hz1).trans c1_1; have c2_2 : w2.cell? ⟨w.heap.size, 2, none⟩ = some (.int .i64 tl) := (hb2.cell (p := ⟨w.heap.size, 2, none⟩) hz1).trans c1_2; have c2_3 : w2.cell? ⟨w.heap.size, 3, none⟩ = some (.int .i64 st) := (hb2.cell (p := ⟨w.heap.size, 3, none⟩) hz1).trans c1_3; have c2_4 : w2.cell? ⟨w.heap.size, 4, none⟩ = some (.int .i64 ca) := (hb2.cell (p := ⟨w.heap.size, 4, none⟩) hz1).trans c1_4))
    go_quiet ((first | (go_at_call 8; exact Calls.quiet_of_same (rcells_c' _ _ _ _ _)) | (go_at_call 10; exact Calls.quiet_of_same (rcompile_c' _ _ _ _ _ _)) | (go_at_call 12; exact Calls.quiet_of_same (rscan_c' _ _ _ _))))
    have c3_0 : (w2.drewN nq).cell? ⟨w.heap.size, 0, none⟩ = some (.int .i64 c) := c2_0
    have c3_1 : (w2.drewN nq).cell? ⟨w.heap.size, 1, none⟩ = some (.int .i64 s) := c2_1
    have c3_2 : (w2.drewN nq).cell? ⟨w.heap.size, 2, none⟩ = some (.int .i64 tl) := c2_2
    have c3_3 : (w2.drewN nq).cell? ⟨w.heap.size, 3, none⟩ = some (.int .i64 st) := c2_3
    have c3_4 : (w2.drewN nq).cell? ⟨w.heap.size, 4, none⟩ = some (.int .i64 ca) := c2_4
    have hb4 : Below w.heap.size w (w2.drewN nq) := (by repeat (first | with_reducible exact Below.refl _ _ | with_reducible refine below_draws ?_ _ | with_reducible refine below_alloc ?_ _ | with_reducible refine below_put ?_ (by simp; omega) _ | with_reducible assumption | (refine below_step ?_ (by assumption))))
    clear hb1 hb2 hk1 hk2 hf1 hf2 hz1 hz2 c2_0 c2_1 c2_2 c2_3 c2_4 c1_0 c1_1 c1_2 c1_3 c1_4
    generalize w2.drewN nq = w4 at c3_0 c3_1 c3_2 c3_3 c3_4 hb4 ⊢
    go_wp2_with (go_at_call 13; (with_reducible refine (enough_c (c + 1) _ _ _ _ _ _ _ _ _ _).mono ?_); rintro e w3 ⟨rfl, hb3⟩)
    go_ret
    exact ⟨rfl, (by repeat (first | with_reducible exact Below.refl _ _ | with_reducible refine below_draws ?_ _ | with_reducible refine below_alloc ?_ _ | with_reducible refine below_put ?_ (by simp; omega) _ | with_reducible assumption | (refine below_step ?_ (by assumption))))⟩
theorem quota_c (c s tl st ca engine states classes file input : Int) (w : World) (hc0 : -9223372036854775808 ≤ c) (hs0 : -9223372036854775808 ≤ s) :
    Calls Try.prog 4 #[.agg #[.int .i64 c, .int .i64 s, .int .i64 tl, .int .i64 st, .int .i64 ca], .int .i64 engine, .int .i64 states, .int .i64 classes, .int .i64 file, .int .i64 input] w fun e w' => e = .returned (.bool true) ∧ Below w.heap.size w w' := by
  by_cases hb : 1125899906842624 < c ∨ 1125899906842624 < s
  · exact quota_big _ _ _ _ _ _ _ _ _ _ _ hb
  · have hc : c ≤ 1125899906842624 := by omega
    have hs : s ≤ 1125899906842624 := by omega
    by_cases e1 : engine = 1
    · subst e1
      by_cases g1 : cellsZ 1 states classes st ≤ c
      · by_cases g2 : compileZ file 400 states classes st ≤ s
        · by_cases g3 : scanZ 1 states input ≤ s
          · exact quota_1_0 _ _ _ _ _ _ _ _ _ _ hc hs hc0 hs0 g1 g2 g3
          · exact quota_1_3 _ _ _ _ _ _ _ _ _ _ hc hs hc0 hs0 g1 g2 g3
        · exact quota_1_2 _ _ _ _ _ _ _ _ _ _ hc hs hc0 hs0 g1 g2
      · exact quota_1_1 _ _ _ _ _ _ _ _ _ _ hc hs hc0 hs0 g1
    · by_cases e2 : engine = 2
      · subst e2
        by_cases g1 : cellsZ 2 states classes ca ≤ c
        · by_cases g2 : compileZ file 400 states classes st ≤ s
          · by_cases g3 : scanZ 2 states input ≤ s
            · exact quota_2_0 _ _ _ _ _ _ _ _ _ _ hc hs hc0 hs0 g1 g2 g3
            · exact quota_2_3 _ _ _ _ _ _ _ _ _ _ hc hs hc0 hs0 g1 g2 g3
          · exact quota_2_2 _ _ _ _ _ _ _ _ _ _ hc hs hc0 hs0 g1 g2
        · exact quota_2_1 _ _ _ _ _ _ _ _ _ _ hc hs hc0 hs0 g1
      · by_cases e3 : engine = 3
        · subst e3
          by_cases g1 : cellsZ 3 states classes 0 ≤ c
          · by_cases g2 : compileZ file 400 states classes st ≤ s
            · by_cases g3 : scanZ 3 states input ≤ s
              · exact quota_3_0 _ _ _ _ _ _ _ _ _ _ hc hs hc0 hs0 g1 g2 g3
              · exact quota_3_3 _ _ _ _ _ _ _ _ _ _ hc hs hc0 hs0 g1 g2 g3
            · exact quota_3_2 _ _ _ _ _ _ _ _ _ _ hc hs hc0 hs0 g1 g2
          · exact quota_3_1 _ _ _ _ _ _ _ _ _ _ hc hs hc0 hs0 g1
        · exact quota_no _ _ _ _ _ _ _ _ _ _ _ hc hs hc0 hs0 (by omega)
end Go.Proofs.Ytjaikfgobkbhiaa
