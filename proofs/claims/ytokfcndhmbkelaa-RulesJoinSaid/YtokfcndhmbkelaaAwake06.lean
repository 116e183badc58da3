/- The walk of awake. -/
import Derived.Test.YtokfcndhmbkelaaRuFew
import Derived.Test.YtokfcndhmbkelaaRuRef2
namespace Go.Proofs.Ytokfcndhmbkelaa
open Go.RowKit
def awS : List UInt8 := [35, 32, 120, 10, 105, 100, 58, 91, 97, 45, 122, 93, 43, 10]
def awL : Ln := ⟨[105, 100], [91, 97, 45, 122, 93, 43], 7⟩
theorem aw1 : splitB awS = .ok [awL] := by rfl
theorem aw2 : splitB [105, 100, 91, 97, 93] = .error 2 := by rfl
theorem aw3 : splitB [35] = .error 1 := by rfl
theorem aw4 : joinB [awL] = some [105, 100, 58, 91, 97, 45, 122, 93, 43, 10] := by rfl
theorem aw5 : joinB [] = none := by rfl
theorem aw6 : nameB [97, 95, 57] = true := by rfl
theorem aw7 : nameB [] = false := by rfl
set_option maxHeartbeats 4000000 in
set_option maxRecDepth 100000 in
theorem awake_c (w : World) : Calls Try.prog 8 #[] w fun e w' => e = .returned (.bool true) ∧ Below w.heap.size w w' := by
  have S1 := split_c awS (by decide) w
  rw [aw1] at S1
  have S2 := Lib.hid (fun w1 => split_c [105, 100, 91, 97, 93] (by decide) w1)
  rw [aw2] at S2
  have S3 := Lib.hid (fun w1 => split_c [35] (by decide) w1)
  rw [aw3] at S3
  have J1 := Lib.hid (fun v w1 h => join_c [awL] (by decide) (by intro x hx; rw [List.mem_singleton.1 hx]; decide) v w1 h)
  rw [aw4] at J1
  have J2 := Lib.hid (fun w1 => join_c [] (by decide) (by intro x hx; cases hx) (.slice none 0 0) w1 (LinesAt.nil _ _))
  rw [aw5] at J2
  have N1 := Lib.hid (fun w1 => name_c [97, 95, 57] (by decide) w1)
  rw [aw6] at N1
  have N2 := Lib.hid (fun w1 => name_c [] (by decide) w1)
  rw [aw7] at N2
  simp only [joinE] at J1 J2
  unfold str at *
  have S1' := Lib.hid S1
  clear S1
  go_enter Try.func8, Try.ntmps8
  go_wp2_with fail
  refine S1'.out.mono ?_; rintro e w1 ⟨v1, n1, k1, rfl, ⟨hl1, rfl, rfl⟩, b1⟩
  have L1 := Lib.hid hl1
  have B1 := Lib.hid b1
  clear hl1 b1
  go_wp2_with fail
  refine (S2.out _).mono ?_; rintro e w2 ⟨v2, n2, k2, rfl, ⟨rfl, rfl, rfl⟩, b2⟩
  have L2 := Lib.hid (L1.out.below b2)
  have B2 := Lib.hid (below_step B1.out b2)
  clear b2
  go_wp2_with fail
  refine (S3.out _).mono ?_; rintro e w3 ⟨v3, n3, k3, rfl, ⟨rfl, rfl, rfl⟩, b3⟩
  have L3 := Lib.hid (L2.out.below b3)
  have B3 := Lib.hid (below_step B2.out b3)
  clear b3
  go_wp2_with fail
  refine (J1.out _ _ (L3.out.mono (Nat.zero_le _))).mono ?_; rintro e w4 ⟨rfl, b4⟩
  have L4 := Lib.hid (L3.out.below b4)
  have B4 := Lib.hid (below_step B3.out b4)
  clear b4
  go_wp2_with fail
  refine (J2.out _).mono ?_; rintro e w5 ⟨rfl, b5⟩
  have L5 := L4.out.below b5
  have B5 := Lib.hid (below_step B4.out b5)
  clear b5
  obtain ⟨A, cap, rfl, _, hc⟩ := L5
  obtain ⟨g, o, rfl, _, hg, hcell⟩ := hc (by decide)
  obtain ⟨c0, c1, c2⟩ := hcell 0 (by decide)
  have c0' : w5.cell? ⟨g, o, none⟩ = some (.string ⟨#[105, 100]⟩) := by simpa [str, awL] using c0
  have c1' : w5.cell? ⟨g, o + 1, none⟩ = some (.string ⟨#[91, 97, 45, 122, 93, 43]⟩) := by simpa [str, awL] using c1
  have c2' : w5.cell? ⟨g, o + 2, none⟩ = some (.int .i64 7) := by simpa [str, awL] using c2
  clear hc hcell c0 c1 c2 L1 L2 L3 L4
  simp only [List.length_singleton] at *
  go_wp2_with fail
  refine (N1.out _).mono ?_; rintro e w6 ⟨rfl, rfl⟩
  go_wp2_with fail
  refine (N2.out _).mono ?_; rintro e w7 ⟨rfl, rfl⟩
  go_wp2_with fail
  go_returns
  exact ⟨rfl, B5.out⟩
end Go.Proofs.Ytokfcndhmbkelaa
