/- Enough, and what the document fixes. -/
import Derived.Test.YtjaikfgobkbhiaaB
import Derived.Deep.QuietTactic
import Derived.BigQuiet
import Derived.WalkSmall
namespace Go.Proofs.Ytjaikfgobkbhiaa
open Go.RowKit
theorem enough_c (c s tl st ca engine states classes file input : Int) (w : World) :
    Calls Try.prog 13 #[.agg #[.int .i64 c, .int .i64 s, .int .i64 tl, .int .i64 st, .int .i64 ca], .int .i64 engine, .int .i64 states, .int .i64 classes, .int .i64 file, .int .i64 input] w fun e w' => e = .returned (.bool (enoughZ c s st ca engine states classes file input)) ∧ Below w.heap.size w w' := by
  obtain ⟨m, hm⟩ : ∃ m, (if compileZ file 400 states classes st < scanZ engine states input then scanZ engine states input else compileZ file 400 states classes st) = m := ⟨_, rfl⟩
  have hml : ∀ s, (m ≤ s) = (compileZ file 400 states classes st ≤ s ∧ scanZ engine states input ≤ s) := by
    intro s; apply propext; rw [← hm]; split <;> omega
  have HL := Lib.hid hml
  clear hml
  by_cases h1 : engine = 1
  · subst h1
    by_cases g : cellsZ 1 states classes st ≤ c
    · have g1 : decide (cellsZ 1 states classes st ≤ c) = true := by simpa using g
      have G := Lib.hid g
      clear g
      go_enter Try.func13, Try.ntmps13
      go_wp2_with (first | (go_at_call 7; refine (cells_c _ _ _ _ _).mono ?_; rintro e w' ⟨rfl, rfl⟩) | (go_at_call 9; refine (compile_c _ _ _ _ _ _).mono ?_; rintro e w' ⟨rfl, rfl⟩) | (go_at_call 11; refine (scan_c _ _ _ _).mono ?_; rintro e w' ⟨rfl, rfl⟩))
      go_quiet ((go_at_call 7; exact Calls.quiet_of_same (cells_c' _ _ _ _ _)))
      go_wp2
      go_ret
      exact ⟨ret_bool (by unfold enoughZ; rw [decide_eq_decide, HL.out]; have := G.out; simp [rowsZ, this]), below_drewN ((Below.refl _ _).alloc (Nat.le_refl _) _) _⟩
    · have g1 : decide (cellsZ 1 states classes st ≤ c) = false := by simpa using g
      have G := Lib.hid g
      clear g
      go_enter Try.func13, Try.ntmps13
      go_wp2_with (first | (go_at_call 7; refine (cells_c _ _ _ _ _).mono ?_; rintro e w' ⟨rfl, rfl⟩) | (go_at_call 9; refine (compile_c _ _ _ _ _ _).mono ?_; rintro e w' ⟨rfl, rfl⟩) | (go_at_call 11; refine (scan_c _ _ _ _).mono ?_; rintro e w' ⟨rfl, rfl⟩))
      go_quiet ((go_at_call 7; exact Calls.quiet_of_same (cells_c' _ _ _ _ _)))
      go_wp2
      go_ret
      exact ⟨ret_bool (by unfold enoughZ; symm; apply decide_eq_false; rintro ⟨_, _, h, _⟩; have := G.out; have h' : cellsZ 1 states classes st ≤ c := h; omega), below_drewN ((Below.refl _ _).alloc (Nat.le_refl _) _) _⟩
  · have b1 : (engine == 1) = false := beq_eq_false_iff_ne.mpr h1
    by_cases h2 : engine = 2
    · subst h2
      clear h1
      by_cases g : cellsZ 2 states classes ca ≤ c
      · have g1 : decide (cellsZ 2 states classes ca ≤ c) = true := by simpa using g
        have G := Lib.hid g
        clear g
        go_enter Try.func13, Try.ntmps13
        go_wp2_with (first | (go_at_call 7; refine (cells_c _ _ _ _ _).mono ?_; rintro e w' ⟨rfl, rfl⟩) | (go_at_call 9; refine (compile_c _ _ _ _ _ _).mono ?_; rintro e w' ⟨rfl, rfl⟩) | (go_at_call 11; refine (scan_c _ _ _ _).mono ?_; rintro e w' ⟨rfl, rfl⟩))
        go_quiet ((go_at_call 7; exact Calls.quiet_of_same (cells_c' _ _ _ _ _)))
        go_wp2
        go_ret
        exact ⟨ret_bool (by unfold enoughZ; rw [decide_eq_decide, HL.out]; have := G.out; simp [rowsZ, this]), below_drewN ((Below.refl _ _).alloc (Nat.le_refl _) _) _⟩
      · have g1 : decide (cellsZ 2 states classes ca ≤ c) = false := by simpa using g
        have G := Lib.hid g
        clear g
        go_enter Try.func13, Try.ntmps13
        go_wp2_with (first | (go_at_call 7; refine (cells_c _ _ _ _ _).mono ?_; rintro e w' ⟨rfl, rfl⟩) | (go_at_call 9; refine (compile_c _ _ _ _ _ _).mono ?_; rintro e w' ⟨rfl, rfl⟩) | (go_at_call 11; refine (scan_c _ _ _ _).mono ?_; rintro e w' ⟨rfl, rfl⟩))
        go_quiet ((go_at_call 7; exact Calls.quiet_of_same (cells_c' _ _ _ _ _)))
        go_wp2
        go_ret
        exact ⟨ret_bool (by unfold enoughZ; symm; apply decide_eq_false; rintro ⟨_, _, h, _⟩; have := G.out; have h' : cellsZ 2 states classes ca ≤ c := h; omega), below_drewN ((Below.refl _ _).alloc (Nat.le_refl _) _) _⟩
    · have b2 : (engine == 2) = false := beq_eq_false_iff_ne.mpr h2
      by_cases h3 : engine = 3
      · subst h3
        clear h1 h2
        by_cases g : cellsZ 3 states classes 0 ≤ c
        · have g1 : decide (cellsZ 3 states classes 0 ≤ c) = true := by simpa using g
          have G := Lib.hid g
          clear g
          go_enter Try.func13, Try.ntmps13
          go_wp2_with (first | (go_at_call 7; refine (cells_c _ _ _ _ _).mono ?_; rintro e w' ⟨rfl, rfl⟩) | (go_at_call 9; refine (compile_c _ _ _ _ _ _).mono ?_; rintro e w' ⟨rfl, rfl⟩) | (go_at_call 11; refine (scan_c _ _ _ _).mono ?_; rintro e w' ⟨rfl, rfl⟩))
          go_quiet ((go_at_call 7; exact Calls.quiet_of_same (cells_c' _ _ _ _ _)))
          go_wp2
          go_ret
          exact ⟨ret_bool (by unfold enoughZ; rw [decide_eq_decide, HL.out]; have := G.out; simp [rowsZ, this]), below_drewN ((Below.refl _ _).alloc (Nat.le_refl _) _) _⟩
        · have g1 : decide (cellsZ 3 states classes 0 ≤ c) = false := by simpa using g
          have G := Lib.hid g
          clear g
          go_enter Try.func13, Try.ntmps13
          go_wp2_with (first | (go_at_call 7; refine (cells_c _ _ _ _ _).mono ?_; rintro e w' ⟨rfl, rfl⟩) | (go_at_call 9; refine (compile_c _ _ _ _ _ _).mono ?_; rintro e w' ⟨rfl, rfl⟩) | (go_at_call 11; refine (scan_c _ _ _ _).mono ?_; rintro e w' ⟨rfl, rfl⟩))
          go_quiet ((go_at_call 7; exact Calls.quiet_of_same (cells_c' _ _ _ _ _)))
          go_wp2
          go_ret
          exact ⟨ret_bool (by unfold enoughZ; symm; apply decide_eq_false; rintro ⟨_, _, h, _⟩; have := G.out; have h' : cellsZ 3 states classes 0 ≤ c := h; omega), below_drewN ((Below.refl _ _).alloc (Nat.le_refl _) _) _⟩
      · have b3 : (engine == 3) = false := beq_eq_false_iff_ne.mpr h3
        go_enter Try.func13, Try.ntmps13
        go_wp2_with (first | (go_at_call 7; refine (cells_c _ _ _ _ _).mono ?_; rintro e w' ⟨rfl, rfl⟩) | (go_at_call 9; refine (compile_c _ _ _ _ _ _).mono ?_; rintro e w' ⟨rfl, rfl⟩) | (go_at_call 11; refine (scan_c _ _ _ _).mono ?_; rintro e w' ⟨rfl, rfl⟩))
        go_ret
        exact ⟨ret_bool (by unfold enoughZ; symm; apply decide_eq_false; rintro ⟨_, _, _⟩; omega), (Below.refl _ _).alloc (Nat.le_refl _) _⟩
theorem awake_c (w : World) : Calls Try.prog 6 #[] w fun e w' => e = .returned (.bool true) ∧ Below w.heap.size w w' := by
  have e1 : (cellsZ 3 10 4 0 == 30) = true := by decide
  have e2 : (cellsZ 2 10 4 2 == 40) = true := by decide
  have e3 : (cellsZ 1 10 4 2 == 296) = true := by decide
  have e4 : (cellsZ 9 1 1 1 == -1) = true := by decide
  have e5 : (scanZ 1 10 4 == 25) = true := by decide
  have e6 : (compileZ 5 6 7 2 0 == 18) = true := by decide
  have e7 : (compileZ 5 6 7 2 3 == 116) = true := by decide
  have e8 : enoughZ 30 100000 0 0 3 10 4 20 9 = true := by decide
  have e9 : enoughZ 29 100000 0 0 3 10 4 20 9 = false := by decide
  go_enter Try.func6, Try.ntmps6
  go_wp2_with (first | (go_at_call 7; refine (cells_c _ _ _ _ _).mono ?_; rintro e w' ⟨rfl, rfl⟩) | (go_at_call 9; refine (compile_c _ _ _ _ _ _).mono ?_; rintro e w' ⟨rfl, rfl⟩) | (go_at_call 11; refine (scan_c _ _ _ _).mono ?_; rintro e w' ⟨rfl, rfl⟩) | (go_at_call 13; (with_reducible refine (enough_c 30 _ _ _ _ _ _ _ _ _ _).mono ?_); rintro e w1 ⟨rfl, hb1⟩) | (go_at_call 13; (with_reducible refine (enough_c 29 _ _ _ _ _ _ _ _ _ _).mono ?_); rintro e w2 ⟨rfl, hb2⟩))
  go_ret
  exact ⟨rfl, hb1.trans (hb2.mono hb1.size)⟩
end Go.Proofs.Ytjaikfgobkbhiaa
