/- slices.Index and Contains at whole numbers. -/
import Derived.Test.YtafcnehinanecaaTabPure
import Derived.Test.YtafcnehinanecaaTab
namespace Go.Proofs.Ytafcnehinanecaa
open Go.RowKit
attribute [local irreducible] Calls
set_option maxHeartbeats 2000000 in
theorem index_c (l : List Int) (x : Int) (hl : l.length ≤ 1000000) (v : Value) (w : World) (h : IntsAt w 0 v l) : Calls Try.prog 52 #[v, .int .i64 x] w fun e w' => (∃ i : Int, e = .returned (.int .i64 i) ∧ decide (0 ≤ i) = l.any (· == x)) ∧ w = w' := by
  obtain ⟨A, cap, rfl, _, hc⟩ := h
  have HC := Lib.hid hc
  clear hc
  go_enter Try.func52, Try.ntmps52
  go_wp2_with fail
  go_loop [5, 8] (fun _ i => ∃ k : Nat, k ≤ l.length ∧ i = .int .i64 k ∧ (l.take k).any (· == x) = false) (fun _ i => l.length - (intOf i).toNat)
  case atStart => exact ⟨0, by omega, rfl, by simp⟩
  case round =>
    obtain ⟨k, hk, rfl, hno⟩ := hrel
    have HN := Lib.hid hno
    clear hno
    by_cases hlt : k < l.length
    · obtain ⟨b, o, rfl, _, hb, hcell⟩ := HC.out (by omega)
      have c0 := hcell k hlt
      have T := Lib.hid (show (l.take (k + 1)).any (· == x) = ((l.take k).any (· == x) || l[k] == x) by rw [List.take_succ_eq_append_getElem hlt, List.any_append]; simp)
      have E := Lib.hid (show l[k] = x → l.any (· == x) = true from fun e => List.any_eq_true.2 ⟨l[k], List.getElem_mem hlt, by simp [e]⟩)
      generalize l[k] = y at c0 T E
      have t0 : decide (k < l.length) = true := by simp; omega
      have t2 : (k : Int) < (l.length : Nat) := by omega
      clear hcell
      cases hx : (x == y) with
      | true =>
        have HX := Lib.hid (show l.any (· == x) = true from E.out (eq_of_beq hx).symm)
        go_wp2_with fail
        go_ret
        exact ⟨⟨k, rfl, by rw [HX.out]; simp⟩, rfl⟩
      | false =>
        have HX := Lib.hid (show (l.take (k + 1)).any (· == x) = false by
          have : (y == x) = false := by
            rw [beq_eq_false_iff_ne] at hx ⊢; exact fun e => hx e.symm
          rw [T.out, HN.out, this]; rfl)
        go_wp2_with fail
        go_round
        case rel => exact ⟨k + 1, by omega, by go_num, HX.out⟩
        case measure => simp [intOf]; omega
    · have HX := Lib.hid (show l.any (· == x) = false from by have := HN.out; rwa [List.take_of_length_le (by omega)] at this)
      have t0 : decide (k < l.length) = false := by simpa using hlt
      go_wp2_with fail
      go_ret
      exact ⟨⟨-1, rfl, by rw [HX.out]; decide⟩, rfl⟩
theorem contains_c (l : List Int) (x : Int) (hl : l.length ≤ 1000000) (v : Value) (w : World) (h : IntsAt w 0 v l) : Calls Try.prog 35 #[v, .int .i64 x] w fun e w' => e = .returned (.bool (l.any (· == x))) ∧ w = w' := by
  have IC := Lib.hid (index_c l x hl v w h)
  clear h
  go_enter Try.func35, Try.ntmps35
  go_wp2_with (go_at_call 52; refine IC.out.mono ?_; rintro e w1 ⟨⟨i, rfl, hi⟩, rfl⟩; have HI := Lib.hid hi; clear hi)
  go_ret
  exact ⟨by rw [← HI.out]; rfl, rfl⟩
end Go.Proofs.Ytafcnehinanecaa
