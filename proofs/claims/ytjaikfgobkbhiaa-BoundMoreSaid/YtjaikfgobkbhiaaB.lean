/- The walks of layer 23: each function of package bound, and of its reference, computes the plain number of that name. -/
import Derived.Test.YtjaikfgobkbhiaaRows
import Derived.Test.YtjaikfgobkbhiaaA
import Derived.WalkKit
import Derived.WalkSpells
import Derived.WalkLawsBesides
import Derived.Lib.Hide
import Derived.Test.YtjaikfgobkbhiaaKit
namespace Go.Proofs.Ytjaikfgobkbhiaa
open Go.RowKit
theorem times_comm (a b : Int) : timesZ a b = timesZ b a := by unfold timesZ; rw [Int.mul_comm]
theorem of_c (n : Int) (w : World) : Calls Try.prog 15 #[.int .i64 n] w fun e w' => e = .returned (.int .i64 (cutZ n)) ∧ w = w' := by
  go_enter Try.func15, Try.ntmps15
  go_wp2
  all_goals
    go_ret
    exact ⟨ret_int (by unfold cutZ; (repeat' split) <;> omega), rfl⟩
theorem plus_c (a b : Int) (ha : Cnt a) (hb : Cnt b) (w : World) : Calls Try.prog 17 #[.int .i64 a, .int .i64 b] w fun e w' => e = .returned (.int .i64 (plusZ a b)) ∧ w = w' := by
  obtain ⟨a1, a2⟩ := ha
  obtain ⟨b1, b2⟩ := hb
  go_enter Try.func17, Try.ntmps17
  go_wp2
  all_goals
    go_ret
    exact ⟨ret_int (by unfold plusZ cutZ; (repeat' split) <;> omega), rfl⟩
theorem times_c (a b : Int) (ha : Cnt a) (hb : Cnt b) (w : World) : Calls Try.prog 16 #[.int .i64 a, .int .i64 b] w fun e w' => e = .returned (.int .i64 (timesZ a b)) ∧ w = w' := by
  obtain ⟨a1, a2⟩ := ha
  obtain ⟨b1, b2⟩ := hb
  by_cases h : a = 0
  · subst h
    go_enter Try.func16, Try.ntmps16
    go_wp2
    go_ret
    exact ⟨ret_int (by rw [times_zero]), rfl⟩
  · have h1 : 1 ≤ a := by omega
    have h0 : 0 ≤ (1099511627776 : Int) / a := Int.ediv_nonneg (by omega) (by omega)
    have h2 : (1099511627776 : Int) / a ≤ 1099511627776 := Int.ediv_le_self _ (by omega)
    by_cases g : 1099511627776 / a < b
    · have e := times_big h1 g
      clear h
      go_enter Try.func16, Try.ntmps16
      go_wp2
      go_ret
      exact ⟨ret_int (by rw [e]), rfl⟩
    · obtain ⟨p, q, e⟩ := times_small h1 b1 (Int.not_lt.mp g)
      have E := Lib.hid e
      clear e h
      go_enter Try.func16, Try.ntmps16
      go_wp2
      go_ret
      exact ⟨ret_int E.out.symm, rfl⟩
theorem rcut_c (n : Int) (w : World) : Calls Try.prog 19 #[.int .i64 n] w fun e w' => e = .returned (.int .i64 (cutZ n)) ∧ w = w' := by
  go_enter Try.func19, Try.ntmps19
  go_wp2
  all_goals
    go_ret
    exact ⟨ret_int (by unfold cutZ; (repeat' split) <;> omega), rfl⟩
theorem rplus_c (a b : Int) (ha : Cnt a) (hb : Cnt b) (w : World) : Calls Try.prog 20 #[.int .i64 a, .int .i64 b] w fun e w' => e = .returned (.int .i64 (plusZ a b)) ∧ w = w' := by
  obtain ⟨a1, a2⟩ := ha
  obtain ⟨b1, b2⟩ := hb
  go_enter Try.func20, Try.ntmps20
  go_wp2_with (go_at_call 19; refine (rcut_c _ _).mono ?_; rintro e w' ⟨rfl, rfl⟩)
  go_ret
  exact ⟨rfl, rfl⟩
theorem rtimes_c (a b : Int) (ha : Cnt a) (hb : Cnt b) (w : World) : Calls Try.prog 18 #[.int .i64 a, .int .i64 b] w fun e w' => e = .returned (.int .i64 (timesZ a b)) ∧ w = w' := by
  obtain ⟨a1, a2⟩ := ha
  obtain ⟨b1, b2⟩ := hb
  by_cases h : a = 0
  · subst h
    go_enter Try.func18, Try.ntmps18
    go_wp2_with (go_at_call 19; refine (rcut_c _ _).mono ?_; rintro e w' ⟨rfl, rfl⟩)
    go_ret
    exact ⟨ret_int (by unfold timesZ; rw [Int.zero_mul]), rfl⟩
  · have h1 : 1 ≤ a := by omega
    have h0 : 0 ≤ (1099511627776 : Int) / a := Int.ediv_nonneg (by omega) (by omega)
    have h2 : (1099511627776 : Int) / a ≤ 1099511627776 := Int.ediv_le_self _ (by omega)
    by_cases g : 1099511627776 / a < b
    · have e := times_big h1 g
      clear h
      go_enter Try.func18, Try.ntmps18
      go_wp2_with fail
      go_ret
      exact ⟨ret_int (by rw [e]), rfl⟩
    · obtain ⟨p, q, e⟩ := times_small h1 b1 (Int.not_lt.mp g)
      have E := Lib.hid e
      clear e h
      go_enter Try.func18, Try.ntmps18
      go_wp2_with (go_at_call 19; refine (rcut_c _ _).mono ?_; rintro e w' ⟨rfl, rfl⟩)
      go_ret
      exact ⟨ret_int rfl, rfl⟩
theorem cells_c (engine st cl mo : Int) (w : World) : Calls Try.prog 7 #[.int .i64 engine, .int .i64 st, .int .i64 cl, .int .i64 mo] w fun e w' => e = .returned (.int .i64 (cellsZ engine st cl mo)) ∧ w = w' := by
  by_cases h1 : engine = 1
  · subst h1
    go_enter Try.func7, Try.ntmps7
    go_wp2_with (first | (go_at_call 15; refine (of_c _ _).mono ?_; rintro e w' ⟨rfl, rfl⟩) | (go_at_call 17; refine (plus_c _ _ (by first | exact cut_cnt _ | exact plus_cnt _ _ | exact times_cnt _ _ | exact ⟨by decide, by decide⟩) (by first | exact cut_cnt _ | exact plus_cnt _ _ | exact times_cnt _ _ | exact ⟨by decide, by decide⟩) _).mono ?_; rintro e w' ⟨rfl, rfl⟩) | (go_at_call 16; refine (times_c _ _ (by first | exact cut_cnt _ | exact plus_cnt _ _ | exact times_cnt _ _ | exact ⟨by decide, by decide⟩) (by first | exact cut_cnt _ | exact plus_cnt _ _ | exact times_cnt _ _ | exact ⟨by decide, by decide⟩) _).mono ?_; rintro e w' ⟨rfl, rfl⟩))
    go_ret
    exact ⟨ret_int rfl, rfl⟩
  · have b1 : (engine == 1) = false := beq_eq_false_iff_ne.mpr h1
    by_cases h2 : engine = 2
    · subst h2
      clear h1
      go_enter Try.func7, Try.ntmps7
      go_wp2_with (first | (go_at_call 15; refine (of_c _ _).mono ?_; rintro e w' ⟨rfl, rfl⟩) | (go_at_call 17; refine (plus_c _ _ (by first | exact cut_cnt _ | exact plus_cnt _ _ | exact times_cnt _ _ | exact ⟨by decide, by decide⟩) (by first | exact cut_cnt _ | exact plus_cnt _ _ | exact times_cnt _ _ | exact ⟨by decide, by decide⟩) _).mono ?_; rintro e w' ⟨rfl, rfl⟩) | (go_at_call 16; refine (times_c _ _ (by first | exact cut_cnt _ | exact plus_cnt _ _ | exact times_cnt _ _ | exact ⟨by decide, by decide⟩) (by first | exact cut_cnt _ | exact plus_cnt _ _ | exact times_cnt _ _ | exact ⟨by decide, by decide⟩) _).mono ?_; rintro e w' ⟨rfl, rfl⟩))
      go_ret
      exact ⟨ret_int rfl, rfl⟩
    · have b2 : (engine == 2) = false := beq_eq_false_iff_ne.mpr h2
      by_cases h3 : engine = 3
      · subst h3
        clear h1 h2
        go_enter Try.func7, Try.ntmps7
        go_wp2_with (first | (go_at_call 15; refine (of_c _ _).mono ?_; rintro e w' ⟨rfl, rfl⟩) | (go_at_call 17; refine (plus_c _ _ (by first | exact cut_cnt _ | exact plus_cnt _ _ | exact times_cnt _ _ | exact ⟨by decide, by decide⟩) (by first | exact cut_cnt _ | exact plus_cnt _ _ | exact times_cnt _ _ | exact ⟨by decide, by decide⟩) _).mono ?_; rintro e w' ⟨rfl, rfl⟩) | (go_at_call 16; refine (times_c _ _ (by first | exact cut_cnt _ | exact plus_cnt _ _ | exact times_cnt _ _ | exact ⟨by decide, by decide⟩) (by first | exact cut_cnt _ | exact plus_cnt _ _ | exact times_cnt _ _ | exact ⟨by decide, by decide⟩) _).mono ?_; rintro e w' ⟨rfl, rfl⟩))
        go_ret
        exact ⟨ret_int rfl, rfl⟩
      · have b3 : (engine == 3) = false := beq_eq_false_iff_ne.mpr h3
        go_enter Try.func7, Try.ntmps7
        go_wp2_with (first | (go_at_call 15; refine (of_c _ _).mono ?_; rintro e w' ⟨rfl, rfl⟩) | (go_at_call 17; refine (plus_c _ _ (by first | exact cut_cnt _ | exact plus_cnt _ _ | exact times_cnt _ _ | exact ⟨by decide, by decide⟩) (by first | exact cut_cnt _ | exact plus_cnt _ _ | exact times_cnt _ _ | exact ⟨by decide, by decide⟩) _).mono ?_; rintro e w' ⟨rfl, rfl⟩) | (go_at_call 16; refine (times_c _ _ (by first | exact cut_cnt _ | exact plus_cnt _ _ | exact times_cnt _ _ | exact ⟨by decide, by decide⟩) (by first | exact cut_cnt _ | exact plus_cnt _ _ | exact times_cnt _ _ | exact ⟨by decide, by decide⟩) _).mono ?_; rintro e w' ⟨rfl, rfl⟩))
        go_ret
        exact ⟨ret_int (by unfold cellsZ; rw [if_neg h1, if_neg h2, if_neg h3]), rfl⟩
theorem rcells_c (engine st cl mo : Int) (w : World) : Calls Try.prog 8 #[.int .i64 engine, .int .i64 st, .int .i64 cl, .int .i64 mo] w fun e w' => e = .returned (.int .i64 (cellsZ engine st cl mo)) ∧ w = w' := by
  by_cases h1 : engine = 1
  · subst h1
    go_enter Try.func8, Try.ntmps8
    go_wp2_with (first | (go_at_call 19; refine (rcut_c _ _).mono ?_; rintro e w' ⟨rfl, rfl⟩) | (go_at_call 20; refine (rplus_c _ _ (by first | exact cut_cnt _ | exact plus_cnt _ _ | exact times_cnt _ _ | exact ⟨by decide, by decide⟩) (by first | exact cut_cnt _ | exact plus_cnt _ _ | exact times_cnt _ _ | exact ⟨by decide, by decide⟩) _).mono ?_; rintro e w' ⟨rfl, rfl⟩) | (go_at_call 18; refine (rtimes_c _ _ (by first | exact cut_cnt _ | exact plus_cnt _ _ | exact times_cnt _ _ | exact ⟨by decide, by decide⟩) (by first | exact cut_cnt _ | exact plus_cnt _ _ | exact times_cnt _ _ | exact ⟨by decide, by decide⟩) _).mono ?_; rintro e w' ⟨rfl, rfl⟩))
    go_ret
    exact ⟨ret_int (by rw [times_comm 3]; rfl), rfl⟩
  · have b1 : (engine == 1) = false := beq_eq_false_iff_ne.mpr h1
    by_cases h2 : engine = 2
    · subst h2
      clear h1
      go_enter Try.func8, Try.ntmps8
      go_wp2_with (first | (go_at_call 19; refine (rcut_c _ _).mono ?_; rintro e w' ⟨rfl, rfl⟩) | (go_at_call 20; refine (rplus_c _ _ (by first | exact cut_cnt _ | exact plus_cnt _ _ | exact times_cnt _ _ | exact ⟨by decide, by decide⟩) (by first | exact cut_cnt _ | exact plus_cnt _ _ | exact times_cnt _ _ | exact ⟨by decide, by decide⟩) _).mono ?_; rintro e w' ⟨rfl, rfl⟩) | (go_at_call 18; refine (rtimes_c _ _ (by first | exact cut_cnt _ | exact plus_cnt _ _ | exact times_cnt _ _ | exact ⟨by decide, by decide⟩) (by first | exact cut_cnt _ | exact plus_cnt _ _ | exact times_cnt _ _ | exact ⟨by decide, by decide⟩) _).mono ?_; rintro e w' ⟨rfl, rfl⟩))
      go_ret
      exact ⟨ret_int (by rw [times_comm 3]; rfl), rfl⟩
    · have b2 : (engine == 2) = false := beq_eq_false_iff_ne.mpr h2
      by_cases h3 : engine = 3
      · subst h3
        clear h1 h2
        go_enter Try.func8, Try.ntmps8
        go_wp2_with (first | (go_at_call 19; refine (rcut_c _ _).mono ?_; rintro e w' ⟨rfl, rfl⟩) | (go_at_call 20; refine (rplus_c _ _ (by first | exact cut_cnt _ | exact plus_cnt _ _ | exact times_cnt _ _ | exact ⟨by decide, by decide⟩) (by first | exact cut_cnt _ | exact plus_cnt _ _ | exact times_cnt _ _ | exact ⟨by decide, by decide⟩) _).mono ?_; rintro e w' ⟨rfl, rfl⟩) | (go_at_call 18; refine (rtimes_c _ _ (by first | exact cut_cnt _ | exact plus_cnt _ _ | exact times_cnt _ _ | exact ⟨by decide, by decide⟩) (by first | exact cut_cnt _ | exact plus_cnt _ _ | exact times_cnt _ _ | exact ⟨by decide, by decide⟩) _).mono ?_; rintro e w' ⟨rfl, rfl⟩))
        go_ret
        exact ⟨ret_int (by rw [times_comm 3]; rfl), rfl⟩
      · have b3 : (engine == 3) = false := beq_eq_false_iff_ne.mpr h3
        go_enter Try.func8, Try.ntmps8
        go_wp2_with (first | (go_at_call 19; refine (rcut_c _ _).mono ?_; rintro e w' ⟨rfl, rfl⟩) | (go_at_call 20; refine (rplus_c _ _ (by first | exact cut_cnt _ | exact plus_cnt _ _ | exact times_cnt _ _ | exact ⟨by decide, by decide⟩) (by first | exact cut_cnt _ | exact plus_cnt _ _ | exact times_cnt _ _ | exact ⟨by decide, by decide⟩) _).mono ?_; rintro e w' ⟨rfl, rfl⟩) | (go_at_call 18; refine (rtimes_c _ _ (by first | exact cut_cnt _ | exact plus_cnt _ _ | exact times_cnt _ _ | exact ⟨by decide, by decide⟩) (by first | exact cut_cnt _ | exact plus_cnt _ _ | exact times_cnt _ _ | exact ⟨by decide, by decide⟩) _).mono ?_; rintro e w' ⟨rfl, rfl⟩))
        go_ret
        exact ⟨ret_int (by unfold cellsZ; rw [if_neg h1, if_neg h2, if_neg h3]), rfl⟩
theorem scan_c (engine st ip : Int) (w : World) : Calls Try.prog 11 #[.int .i64 engine, .int .i64 st, .int .i64 ip] w fun e w' => e = .returned (.int .i64 (scanZ engine st ip)) ∧ w = w' := by
  by_cases h1 : engine = 1
  · subst h1
    go_enter Try.func11, Try.ntmps11
    go_wp2_with (first | (go_at_call 15; refine (of_c _ _).mono ?_; rintro e w' ⟨rfl, rfl⟩) | (go_at_call 17; refine (plus_c _ _ (by first | exact cut_cnt _ | exact plus_cnt _ _ | exact times_cnt _ _ | exact ⟨by decide, by decide⟩) (by first | exact cut_cnt _ | exact plus_cnt _ _ | exact times_cnt _ _ | exact ⟨by decide, by decide⟩) _).mono ?_; rintro e w' ⟨rfl, rfl⟩) | (go_at_call 16; refine (times_c _ _ (by first | exact cut_cnt _ | exact plus_cnt _ _ | exact times_cnt _ _ | exact ⟨by decide, by decide⟩) (by first | exact cut_cnt _ | exact plus_cnt _ _ | exact times_cnt _ _ | exact ⟨by decide, by decide⟩) _).mono ?_; rintro e w' ⟨rfl, rfl⟩))
    go_ret
    exact ⟨ret_int rfl, rfl⟩
  · have b1 : (engine == 1) = false := beq_eq_false_iff_ne.mpr h1
    by_cases h2 : engine = 2
    · subst h2
      clear h1
      go_enter Try.func11, Try.ntmps11
      go_wp2_with (first | (go_at_call 15; refine (of_c _ _).mono ?_; rintro e w' ⟨rfl, rfl⟩) | (go_at_call 17; refine (plus_c _ _ (by first | exact cut_cnt _ | exact plus_cnt _ _ | exact times_cnt _ _ | exact ⟨by decide, by decide⟩) (by first | exact cut_cnt _ | exact plus_cnt _ _ | exact times_cnt _ _ | exact ⟨by decide, by decide⟩) _).mono ?_; rintro e w' ⟨rfl, rfl⟩) | (go_at_call 16; refine (times_c _ _ (by first | exact cut_cnt _ | exact plus_cnt _ _ | exact times_cnt _ _ | exact ⟨by decide, by decide⟩) (by first | exact cut_cnt _ | exact plus_cnt _ _ | exact times_cnt _ _ | exact ⟨by decide, by decide⟩) _).mono ?_; rintro e w' ⟨rfl, rfl⟩))
      go_ret
      exact ⟨ret_int rfl, rfl⟩
    · have b2 : (engine == 2) = false := beq_eq_false_iff_ne.mpr h2
      by_cases h3 : engine = 3
      · subst h3
        clear h1 h2
        go_enter Try.func11, Try.ntmps11
        go_wp2_with (first | (go_at_call 15; refine (of_c _ _).mono ?_; rintro e w' ⟨rfl, rfl⟩) | (go_at_call 17; refine (plus_c _ _ (by first | exact cut_cnt _ | exact plus_cnt _ _ | exact times_cnt _ _ | exact ⟨by decide, by decide⟩) (by first | exact cut_cnt _ | exact plus_cnt _ _ | exact times_cnt _ _ | exact ⟨by decide, by decide⟩) _).mono ?_; rintro e w' ⟨rfl, rfl⟩) | (go_at_call 16; refine (times_c _ _ (by first | exact cut_cnt _ | exact plus_cnt _ _ | exact times_cnt _ _ | exact ⟨by decide, by decide⟩) (by first | exact cut_cnt _ | exact plus_cnt _ _ | exact times_cnt _ _ | exact ⟨by decide, by decide⟩) _).mono ?_; rintro e w' ⟨rfl, rfl⟩))
        go_ret
        exact ⟨ret_int rfl, rfl⟩
      · have b3 : (engine == 3) = false := beq_eq_false_iff_ne.mpr h3
        go_enter Try.func11, Try.ntmps11
        go_wp2_with (first | (go_at_call 15; refine (of_c _ _).mono ?_; rintro e w' ⟨rfl, rfl⟩) | (go_at_call 17; refine (plus_c _ _ (by first | exact cut_cnt _ | exact plus_cnt _ _ | exact times_cnt _ _ | exact ⟨by decide, by decide⟩) (by first | exact cut_cnt _ | exact plus_cnt _ _ | exact times_cnt _ _ | exact ⟨by decide, by decide⟩) _).mono ?_; rintro e w' ⟨rfl, rfl⟩) | (go_at_call 16; refine (times_c _ _ (by first | exact cut_cnt _ | exact plus_cnt _ _ | exact times_cnt _ _ | exact ⟨by decide, by decide⟩) (by first | exact cut_cnt _ | exact plus_cnt _ _ | exact times_cnt _ _ | exact ⟨by decide, by decide⟩) _).mono ?_; rintro e w' ⟨rfl, rfl⟩))
        go_ret
        exact ⟨ret_int (by unfold scanZ; rw [if_neg h1, if_neg (by omega)]), rfl⟩
theorem rscan_c (engine st ip : Int) (w : World) : Calls Try.prog 12 #[.int .i64 engine, .int .i64 st, .int .i64 ip] w fun e w' => e = .returned (.int .i64 (scanZ engine st ip)) ∧ w = w' := by
  by_cases h1 : engine = 1
  · subst h1
    go_enter Try.func12, Try.ntmps12
    go_wp2_with (first | (go_at_call 19; refine (rcut_c _ _).mono ?_; rintro e w' ⟨rfl, rfl⟩) | (go_at_call 20; refine (rplus_c _ _ (by first | exact cut_cnt _ | exact plus_cnt _ _ | exact times_cnt _ _ | exact ⟨by decide, by decide⟩) (by first | exact cut_cnt _ | exact plus_cnt _ _ | exact times_cnt _ _ | exact ⟨by decide, by decide⟩) _).mono ?_; rintro e w' ⟨rfl, rfl⟩) | (go_at_call 18; refine (rtimes_c _ _ (by first | exact cut_cnt _ | exact plus_cnt _ _ | exact times_cnt _ _ | exact ⟨by decide, by decide⟩) (by first | exact cut_cnt _ | exact plus_cnt _ _ | exact times_cnt _ _ | exact ⟨by decide, by decide⟩) _).mono ?_; rintro e w' ⟨rfl, rfl⟩))
    go_ret
    exact ⟨ret_int rfl, rfl⟩
  · have b1 : (engine == 1) = false := beq_eq_false_iff_ne.mpr h1
    by_cases h2 : engine = 2
    · subst h2
      clear h1
      go_enter Try.func12, Try.ntmps12
      go_wp2_with (first | (go_at_call 19; refine (rcut_c _ _).mono ?_; rintro e w' ⟨rfl, rfl⟩) | (go_at_call 20; refine (rplus_c _ _ (by first | exact cut_cnt _ | exact plus_cnt _ _ | exact times_cnt _ _ | exact ⟨by decide, by decide⟩) (by first | exact cut_cnt _ | exact plus_cnt _ _ | exact times_cnt _ _ | exact ⟨by decide, by decide⟩) _).mono ?_; rintro e w' ⟨rfl, rfl⟩) | (go_at_call 18; refine (rtimes_c _ _ (by first | exact cut_cnt _ | exact plus_cnt _ _ | exact times_cnt _ _ | exact ⟨by decide, by decide⟩) (by first | exact cut_cnt _ | exact plus_cnt _ _ | exact times_cnt _ _ | exact ⟨by decide, by decide⟩) _).mono ?_; rintro e w' ⟨rfl, rfl⟩))
      go_ret
      exact ⟨ret_int (by rw [times_comm 2]; rfl), rfl⟩
    · have b2 : (engine == 2) = false := beq_eq_false_iff_ne.mpr h2
      by_cases h3 : engine = 3
      · subst h3
        clear h1 h2
        go_enter Try.func12, Try.ntmps12
        go_wp2_with (first | (go_at_call 19; refine (rcut_c _ _).mono ?_; rintro e w' ⟨rfl, rfl⟩) | (go_at_call 20; refine (rplus_c _ _ (by first | exact cut_cnt _ | exact plus_cnt _ _ | exact times_cnt _ _ | exact ⟨by decide, by decide⟩) (by first | exact cut_cnt _ | exact plus_cnt _ _ | exact times_cnt _ _ | exact ⟨by decide, by decide⟩) _).mono ?_; rintro e w' ⟨rfl, rfl⟩) | (go_at_call 18; refine (rtimes_c _ _ (by first | exact cut_cnt _ | exact plus_cnt _ _ | exact times_cnt _ _ | exact ⟨by decide, by decide⟩) (by first | exact cut_cnt _ | exact plus_cnt _ _ | exact times_cnt _ _ | exact ⟨by decide, by decide⟩) _).mono ?_; rintro e w' ⟨rfl, rfl⟩))
        go_ret
        exact ⟨ret_int (by rw [times_comm 2]; rfl), rfl⟩
      · have b3 : (engine == 3) = false := beq_eq_false_iff_ne.mpr h3
        go_enter Try.func12, Try.ntmps12
        go_wp2_with (first | (go_at_call 19; refine (rcut_c _ _).mono ?_; rintro e w' ⟨rfl, rfl⟩) | (go_at_call 20; refine (rplus_c _ _ (by first | exact cut_cnt _ | exact plus_cnt _ _ | exact times_cnt _ _ | exact ⟨by decide, by decide⟩) (by first | exact cut_cnt _ | exact plus_cnt _ _ | exact times_cnt _ _ | exact ⟨by decide, by decide⟩) _).mono ?_; rintro e w' ⟨rfl, rfl⟩) | (go_at_call 18; refine (rtimes_c _ _ (by first | exact cut_cnt _ | exact plus_cnt _ _ | exact times_cnt _ _ | exact ⟨by decide, by decide⟩) (by first | exact cut_cnt _ | exact plus_cnt _ _ | exact times_cnt _ _ | exact ⟨by decide, by decide⟩) _).mono ?_; rintro e w' ⟨rfl, rfl⟩))
        go_ret
        exact ⟨ret_int (by unfold scanZ; rw [if_neg h1, if_neg (by omega)]), rfl⟩
theorem compile_c (fi wi st cl mo : Int) (w : World) : Calls Try.prog 9 #[.int .i64 fi, .int .i64 wi, .int .i64 st, .int .i64 cl, .int .i64 mo] w fun e w' => e = .returned (.int .i64 (compileZ fi wi st cl mo)) ∧ w = w' := by
  by_cases h : 0 < mo
  · go_enter Try.func9, Try.ntmps9
    go_wp2_with (first | (go_at_call 15; refine (of_c _ _).mono ?_; rintro e w' ⟨rfl, rfl⟩) | (go_at_call 17; refine (plus_c _ _ (by first | exact cut_cnt _ | exact plus_cnt _ _ | exact times_cnt _ _ | exact ⟨by decide, by decide⟩) (by first | exact cut_cnt _ | exact plus_cnt _ _ | exact times_cnt _ _ | exact ⟨by decide, by decide⟩) _).mono ?_; rintro e w' ⟨rfl, rfl⟩) | (go_at_call 16; refine (times_c _ _ (by first | exact cut_cnt _ | exact plus_cnt _ _ | exact times_cnt _ _ | exact ⟨by decide, by decide⟩) (by first | exact cut_cnt _ | exact plus_cnt _ _ | exact times_cnt _ _ | exact ⟨by decide, by decide⟩) _).mono ?_; rintro e w' ⟨rfl, rfl⟩))
    go_ret
    exact ⟨ret_int (by unfold compileZ; rw [if_pos h]), rfl⟩
  · go_enter Try.func9, Try.ntmps9
    go_wp2_with (first | (go_at_call 15; refine (of_c _ _).mono ?_; rintro e w' ⟨rfl, rfl⟩) | (go_at_call 17; refine (plus_c _ _ (by first | exact cut_cnt _ | exact plus_cnt _ _ | exact times_cnt _ _ | exact ⟨by decide, by decide⟩) (by first | exact cut_cnt _ | exact plus_cnt _ _ | exact times_cnt _ _ | exact ⟨by decide, by decide⟩) _).mono ?_; rintro e w' ⟨rfl, rfl⟩) | (go_at_call 16; refine (times_c _ _ (by first | exact cut_cnt _ | exact plus_cnt _ _ | exact times_cnt _ _ | exact ⟨by decide, by decide⟩) (by first | exact cut_cnt _ | exact plus_cnt _ _ | exact times_cnt _ _ | exact ⟨by decide, by decide⟩) _).mono ?_; rintro e w' ⟨rfl, rfl⟩))
    go_ret
    exact ⟨ret_int (by unfold compileZ; rw [if_neg (by omega)]), rfl⟩
theorem rcompile_c (fi wi st cl mo : Int) (w : World) : Calls Try.prog 10 #[.int .i64 fi, .int .i64 wi, .int .i64 st, .int .i64 cl, .int .i64 mo] w fun e w' => e = .returned (.int .i64 (compileZ fi wi st cl mo)) ∧ w = w' := by
  by_cases h : 0 < mo
  · have c : (cutZ mo == 0) = false := beq_eq_false_iff_ne.mpr (by unfold cutZ; (repeat' split) <;> omega)
    go_enter Try.func10, Try.ntmps10
    go_wp2_with (first | (go_at_call 19; refine (rcut_c _ _).mono ?_; rintro e w' ⟨rfl, rfl⟩) | (go_at_call 20; refine (rplus_c _ _ (by first | exact cut_cnt _ | exact plus_cnt _ _ | exact times_cnt _ _ | exact ⟨by decide, by decide⟩) (by first | exact cut_cnt _ | exact plus_cnt _ _ | exact times_cnt _ _ | exact ⟨by decide, by decide⟩) _).mono ?_; rintro e w' ⟨rfl, rfl⟩) | (go_at_call 18; refine (rtimes_c _ _ (by first | exact cut_cnt _ | exact plus_cnt _ _ | exact times_cnt _ _ | exact ⟨by decide, by decide⟩) (by first | exact cut_cnt _ | exact plus_cnt _ _ | exact times_cnt _ _ | exact ⟨by decide, by decide⟩) _).mono ?_; rintro e w' ⟨rfl, rfl⟩))
    go_ret
    exact ⟨ret_int (by unfold compileZ; rw [if_pos h, times_comm 2]), rfl⟩
  · have c : (cutZ mo == 0) = true := beq_iff_eq.mpr (by unfold cutZ; (repeat' split) <;> omega)
    go_enter Try.func10, Try.ntmps10
    go_wp2_with (first | (go_at_call 19; refine (rcut_c _ _).mono ?_; rintro e w' ⟨rfl, rfl⟩) | (go_at_call 20; refine (rplus_c _ _ (by first | exact cut_cnt _ | exact plus_cnt _ _ | exact times_cnt _ _ | exact ⟨by decide, by decide⟩) (by first | exact cut_cnt _ | exact plus_cnt _ _ | exact times_cnt _ _ | exact ⟨by decide, by decide⟩) _).mono ?_; rintro e w' ⟨rfl, rfl⟩) | (go_at_call 18; refine (rtimes_c _ _ (by first | exact cut_cnt _ | exact plus_cnt _ _ | exact times_cnt _ _ | exact ⟨by decide, by decide⟩) (by first | exact cut_cnt _ | exact plus_cnt _ _ | exact times_cnt _ _ | exact ⟨by decide, by decide⟩) _).mono ?_; rintro e w' ⟨rfl, rfl⟩))
    go_ret
    exact ⟨ret_int (by unfold compileZ; rw [if_neg (by omega)]), rfl⟩
/-- The same, the world the other way round (what a quiet region asks). -/
theorem cells_c' (engine st cl mo : Int) (w : World) : Calls Try.prog 7 #[.int .i64 engine, .int .i64 st, .int .i64 cl, .int .i64 mo] w fun e w' => e = .returned (.int .i64 (cellsZ engine st cl mo)) ∧ w' = w :=
  (cells_c engine st cl mo w).mono fun _ _ h => ⟨h.1, h.2.symm⟩
end Go.Proofs.Ytjaikfgobkbhiaa
