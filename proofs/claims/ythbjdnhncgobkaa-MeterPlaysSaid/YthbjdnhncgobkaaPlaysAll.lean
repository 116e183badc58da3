/- MeterPlays, whatever the list's length. -/
import Derived.Test.YthbjdnhncgobkaaPlays
namespace Go.Proofs.Ythbjdnhncgobkaa
open Go.RowKit
theorem plays_long (c s : Int) (A : Option Addr) (len cap : Nat) (w : World) (hl : 500 < len) :
    Calls Try.prog 3 #[.int .i64 c, .int .i64 s, .slice A len cap] w fun e w' => e = .returned (.bool true) ∧ Below w.heap.size w w' := by
  have hl' : decide ((500 : Int) < (len : Int)) = true := by simp; omega
  clear hl
  go_enter Try.func3, Try.ntmps3
  go_wp2_with fail
  refine (awake_c _).mono ?_; rintro e w1 ⟨rfl, k1⟩
  go_wp2_with fail
  refine (awake_c _).mono ?_; rintro e w2 ⟨rfl, k2⟩
  go_wp2_with fail
  go_ret
  exact ⟨rfl, below_step k1 k2⟩
set_option maxRecDepth 100000 in
theorem plays_zero (c s : Int) (A : Option Addr) (cap : Nat) (w : World) :
    Calls Try.prog 3 #[.int .i64 c, .int .i64 s, .slice A 0 cap] w fun e w' => e = .returned (.bool true) ∧ Below w.heap.size w w' := by
  go_enter Try.func3, Try.ntmps3
  go_wp2_with fail
  refine (awake_c _).mono ?_; rintro e w1 ⟨rfl, k1⟩
  go_wp2_with fail
  refine (new_c _ _ _).mono ?_; rintro e w2 ⟨rfl, hw2⟩
  have k2 : Below w.heap.size w w2 := by rw [hw2]; exact below_alloc k1 _
  clear hw2 k1
  go_wp2_with fail
  refine (show Calls Try.prog 10 #[.int .i64 c, .int .i64 s] _ fun e w' => e = .returned (.agg #[.int .i64 0, .int .i64 0, .int .i64 (betw c 1048576), .int .i64 0, .int .i64 (betw s 1073741824), .int .i64 0]) ∧ Below _ _ w' from rnew_c c s _).mono ?_; rintro e w3 ⟨rfl, k3⟩
  have K3 := Lib.hid (below_step k2 k3)
  clear k2 k3
  go_wp2_with fail
  go_loopw [32] (fun i wr => i = .int .i64 0 ∧ Below w.heap.size w wr) (fun _ _ => 0)
  case atStart => exact ⟨rfl, below_alloc K3.out _⟩
  case round =>
    obtain ⟨rfl, hb⟩ := hrel
    go_wp2_with fail
    go_ret
    exact ⟨rfl, hb⟩
theorem plays_c (c s : Int) (A : Option Addr) (len cap : Nat) (X : Nat → Nat → Int) (w : World)
    (hA : 0 < len → ∃ b o, A = some ⟨b, o, none⟩ ∧ b < w.heap.size ∧ ∀ i, i < len → ∀ j, j < 2 → w.cell? ⟨b, o + (i * 2 + j), none⟩ = some (.int .i64 (X i j)))
    (hX : ∀ i, i < len → ∀ j, j < 2 → (Lit.int .i64 (X i j)).wf = true) :
    Calls Try.prog 3 #[.int .i64 c, .int .i64 s, .slice A len cap] w fun e w' => e = .returned (.bool true) ∧ Below w.heap.size w w' := by
  by_cases hl : 500 < len
  · exact plays_long c s A len cap w hl
  · by_cases h0 : len = 0
    · subst h0; exact plays_zero c s A cap w
    · obtain ⟨b, o, rfl, hb, hc⟩ := hA (by omega)
      exact plays_pos c s b o len cap X w (by omega) (by omega) hb hc hX
end Go.Proofs.Ythbjdnhncgobkaa
