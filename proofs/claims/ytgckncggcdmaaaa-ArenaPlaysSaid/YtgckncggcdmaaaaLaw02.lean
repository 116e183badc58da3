/- What the laws of the arena have in common. -/
import Derived.Test.YtgckncggcdmaaaaAw02
import Derived.Deep.RegionHeld
namespace Go.Proofs.Ytgckncggcdmaaaa
open Go.RowKit Go.Maps
def longB (n : Int) (len : Nat) : Bool := decide (300 < n) || decide (200 < len)
theorem long_c (n : Int) (A : Option Addr) (len cap : Nat) (w : World) : Calls Try.prog 9 #[.int .i64 n, .slice A len cap] w fun e w' => e = .returned (.bool (longB n len)) ∧ w = w' := by
  by_cases h : 300 < n
  · have t1 : decide (300 < n) = true := by simpa using h
    go_enter Try.func9, Try.ntmps9
    go_wp2
    go_ret
    exact ⟨ret_bool (by unfold longB; rw [t1]; rfl), rfl⟩
  · have t1 : decide (300 < n) = false := by simpa using h
    have t2 : decide ((200 : Int) < (len : Int)) = decide (200 < len) := by rw [Bool.eq_iff_iff]; simp; omega
    go_enter Try.func9, Try.ntmps9
    go_wp2
    go_ret
    exact ⟨ret_bool (by unfold longB; rw [t1]; simp), rfl⟩
/-- What the call may hold beside an arena: blocks that are none of its own. -/
def Far (S T : List Nat) : Prop := ∀ x ∈ S, x ∉ T
theorem allocF_last (A : Ar) (mo : Option Mt) (n : Int) : (allocF A mo n).1.1.last ≤ A.last + 1 := by
  unfold allocF
  split
  · exact Nat.le_succ _
  · split
    · exact Nat.le_succ _
    · split
      · exact Nat.le_refl _
      · split
        · exact Nat.le_refl _
        · exact Nat.le_succ _
theorem allocF_none (A : Ar) (n : Int) : (allocF A none n).1.2 = none := by
  unfold allocF
  split
  · rfl
  · split
    · rfl
    · rfl
theorem freeF_none (A : Ar) (id : Int) : (freeF A none id).1.2 = none := by
  unfold freeF
  split <;> rfl
theorem freeF_last (A : Ar) (mo : Option Mt) (id : Int) : (freeF A mo id).1.1.last = A.last := by
  unfold freeF
  split <;> rfl
theorem freeF_size (A : Ar) (mo : Option Mt) (id : Int) : (freeF A mo id).1.1.size = A.size := by
  unfold freeF
  split <;> rfl
theorem setF_last (A : Ar) (id i v : Int) : (setF A id i v).last = A.last := by
  unfold setF
  split
  · rfl
  · split <;> rfl
theorem wf_le {x : Int} (h : (Lit.int .i64 x).wf = true) : x ≤ 9223372036854775807 := by
  simp only [Lit.wf] at h
  rw [show IntKind.i64.min = -9223372036854775808 from by decide, show IntKind.i64.max = 9223372036854775807 from by decide, Bool.and_eq_true, decide_eq_true_iff, decide_eq_true_iff] at h
  exact h.2
theorem allocF_wf (A : Ar) (mo : Option Mt) (n : Int) (h : A.last ≤ 1000000000) : (Lit.int .i64 (allocF A mo n).2.1).wf = true := by
  refine wfI ?_ ?_ <;> (unfold allocF; (repeat' split) <;> simp <;> omega)
end Go.Proofs.Ytgckncggcdmaaaa
