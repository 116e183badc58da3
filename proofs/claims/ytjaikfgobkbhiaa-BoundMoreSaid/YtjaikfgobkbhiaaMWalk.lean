/- The walk of BoundMore: monotony of the closed forms. -/
import Derived.Test.YtjaikfgobkbhiaaC
import Derived.Test.YtjaikfgobkbhiaaKit
import Derived.Test.YtjaikfgobkbhiaaMono
namespace Go.Proofs.Ytjaikfgobkbhiaa
open Go.RowKit
def upZ (n : Int) : Int := if n = 9223372036854775807 then n else n + 1
theorem up_le (n : Int) : n ≤ upZ n := by unfold upZ; split <;> omega
theorem up_c (n : Int) (h : -9223372036854775808 ≤ n) (g : n ≤ 9223372036854775807) (w : World) : Calls Try.prog 14 #[.int .i64 n] w fun e w' => e = .returned (.int .i64 (upZ n)) ∧ w = w' := by
  by_cases c : n = 9223372036854775807
  · have c1 : (n == 9223372036854775807) = true := beq_iff_eq.mpr c
    have C := Lib.hid c
    clear c
    go_enter Try.func14, Try.ntmps14
    go_wp2
    go_ret
    exact ⟨ret_int (by unfold upZ; rw [if_pos C.out]), rfl⟩
  · have c1 : (n == 9223372036854775807) = false := beq_eq_false_iff_ne.mpr c
    have c2 : n ≤ 9223372036854775806 := by omega
    go_enter Try.func14, Try.ntmps14
    go_wp2
    go_ret
    exact ⟨ret_int (by unfold upZ; rw [if_neg c]), rfl⟩
set_option maxHeartbeats 1000000 in
theorem more_c (g a b c d e : Int) (w : World) (ha0 : -9223372036854775808 ≤ a) (ha1 : a ≤ 9223372036854775807) (hb0 : -9223372036854775808 ≤ b) (hb1 : b ≤ 9223372036854775807) (hc0 : -9223372036854775808 ≤ c) (hc1 : c ≤ 9223372036854775807) (he0 : -9223372036854775808 ≤ e) (he1 : e ≤ 9223372036854775807) : Calls Try.prog 5 #[.int .i64 g, .int .i64 a, .int .i64 b, .int .i64 c, .int .i64 d, .int .i64 e] w fun e w' => e = .returned (.bool true) ∧ Below w.heap.size w w' := by
  obtain ⟨E, hE⟩ : ∃ E, wrap64 (1 + wrap64 ((IntKind.u64.wrap g).tmod 3)) = E := ⟨_, rfl⟩
  have d0 : decide (cellsZ E a b c ≤ cellsZ E (upZ a) b c) = true := decide_eq_true (cells_mono E (up_le a) (Int.le_refl b) (Int.le_refl c))
  have d1 : decide (cellsZ E a b c ≤ cellsZ E a (upZ b) c) = true := decide_eq_true (cells_mono E (Int.le_refl a) (up_le b) (Int.le_refl c))
  have d2 : decide (cellsZ E a b c ≤ cellsZ E a b (upZ c)) = true := decide_eq_true (cells_mono E (Int.le_refl a) (Int.le_refl b) (up_le c))
  have d3 : decide (compileZ a b c d e ≤ compileZ (upZ a) b c d e) = true := decide_eq_true (compile_mono (up_le a) (Int.le_refl b) (Int.le_refl c) (Int.le_refl d) (Int.le_refl e))
  have d4 : decide (compileZ a b c d e ≤ compileZ a b (upZ c) d (upZ e)) = true := decide_eq_true (compile_mono (Int.le_refl a) (Int.le_refl b) (up_le c) (Int.le_refl d) (up_le e))
  have d5 : decide (scanZ E a b ≤ scanZ E (upZ a) b) = true := decide_eq_true (scan_mono E (up_le a) (Int.le_refl b))
  have d6 : decide (scanZ E a b ≤ scanZ E a (upZ b)) = true := decide_eq_true (scan_mono E (Int.le_refl a) (up_le b))
  go_enter Try.func5, Try.ntmps5
  go_wp2_with (first | (go_at_call 6; refine (awake_c _).mono ?_; rintro e w1 ⟨rfl, hbel⟩) | (go_at_call 14; (with_reducible refine (up_c a ha0 ha1 _).mono ?_); rintro e w' ⟨rfl, rfl⟩) | (go_at_call 14; (with_reducible refine (up_c b hb0 hb1 _).mono ?_); rintro e w' ⟨rfl, rfl⟩) | (go_at_call 14; (with_reducible refine (up_c c hc0 hc1 _).mono ?_); rintro e w' ⟨rfl, rfl⟩) | (go_at_call 14; (with_reducible refine (up_c e he0 he1 _).mono ?_); rintro e w' ⟨rfl, rfl⟩) | (go_at_call 7; refine (cells_c _ _ _ _ _).mono ?_; rintro e w' ⟨rfl, rfl⟩) | (go_at_call 9; refine (compile_c _ _ _ _ _ _).mono ?_; rintro e w' ⟨rfl, rfl⟩) | (go_at_call 11; refine (scan_c _ _ _ _).mono ?_; rintro e w' ⟨rfl, rfl⟩))
  go_ret
  exact ⟨rfl, hbel⟩
end Go.Proofs.Ytjaikfgobkbhiaa
