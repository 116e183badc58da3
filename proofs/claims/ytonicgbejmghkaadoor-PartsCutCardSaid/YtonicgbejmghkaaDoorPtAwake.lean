/- The walk of awake. -/
import Derived.Test.YtonicgbejmghkaaDoorPtLaw
namespace Go.Proofs.YtonicgbejmghkaaDoor
open Go.RowKit
def awA : Nat → Nat := ofS 97 3
def awB : Nat → Nat := ofS 99 24
def awL : List (Nat → Nat) := [awA, awB]
def awZ : Nat → Nat := ofS 97 26
set_option maxRecDepth 100000 in
theorem aw_facts : nc awL = 4 ∧ cl awL 33 = 0 ∧ cl awL 98 = 1 ∧ cl awL 99 = 2 ∧ cl awL 122 = 3 ∧ lb awL 3 = 100 ∧ cntS (clSet awL 1) = 2 ∧ (clIn awL awZ).length = 3 ∧ nc [] = 1 := by decide +kernel
theorem awL_ok : ∀ S ∈ awL, okS S := by
  intro S hS
  rcases List.mem_cons.1 hS with rfl | hS
  · exact of_ok 97 3
  · rw [List.mem_singleton.1 hS]; exact of_ok 99 24
attribute [local irreducible] Calls nc cl lb cntS clSet clIn ofS
set_option maxHeartbeats 4000000 in
set_option maxRecDepth 100000 in
theorem awake_c (w : World) (hT : TabAt 0 Lib.deBruijn64tab w) : Calls Tryd.prog 8 #[] w fun e w' => e = .returned (.bool true) ∧ Below w.heap.size w w' := by
  have HT := Lib.hid hT
  obtain ⟨q1, q2, q3, q4, q5, q6, q7, q8, q9⟩ := aw_facts
  have OA := Lib.hid (fun w1 => show Calls Tryd.prog 23 #[.int .u8 97, .int .u8 99] w1 fun e w' => e = .returned (setV awA) ∧ Below w1.heap.size w1 w' from of_c 97 99 (by decide) (by decide) w1)
  have OB := Lib.hid (fun w1 => show Calls Tryd.prog 23 #[.int .u8 99, .int .u8 122] w1 fun e w' => e = .returned (setV awB) ∧ Below w1.heap.size w1 w' from of_c 99 122 (by decide) (by decide) w1)
  have OZ := Lib.hid (fun w1 => show Calls Tryd.prog 23 #[.int .u8 97, .int .u8 122] w1 fun e w' => e = .returned (setV awZ) ∧ Below w1.heap.size w1 w' from of_c 97 122 (by decide) (by decide) w1)
  have CC := Lib.hid (fun v w1 h => cut_c awL awL_ok (by decide) v w1 h)
  have CN := Lib.hid (fun w1 => cut_c [] (by simp) (by decide) (.slice none 0 0) w1 (sets_nil w1))
  have S3 := Lib.hid (fun p w1 ht h => smp_of (p := p) awL_ok 3 w1 ht h)
  have S4 := Lib.hid (fun p w1 ht h => smp_of (p := p) awL_ok 4 w1 ht h)
  rw [show smp (clSet awL 3) = .tuple #[.int .u8 100, .bool true] from by have := smp_in awL_ok (c := 3) (by rw [q1]; decide); rw [q6] at this; exact this] at S3
  rw [show smp (clSet awL 4) = .tuple #[.int .u8 0, .bool false] from by rw [clSet_out (.inr (by rw [q1]; decide)), smp_zero]] at S4
  have LN := Lib.hid (fun p w1 h => len_of (p := p) (l := awL) w1 h)
  rw [q1] at LN
  have C1 := Lib.hid (fun p w1 h => class_of (p := p) (l := awL) (b := 33) (by decide) w1 h)
  rw [q2] at C1
  have C2 := Lib.hid (fun p w1 h => class_of (p := p) (l := awL) (b := 98) (by decide) w1 h)
  rw [q3] at C2
  have C3 := Lib.hid (fun p w1 h => class_of (p := p) (l := awL) (b := 99) (by decide) w1 h)
  rw [q4] at C3
  have C4 := Lib.hid (fun p w1 h => class_of (p := p) (l := awL) (b := 122) (by decide) w1 h)
  rw [q5] at C4
  have O1 := Lib.hid (fun p w1 h => of_of (p := p) (l := awL) 1 w1 h)
  have N1 := Lib.hid (fun w1 => count_c (clSet awL 1) (clSet_ok awL_ok 1) w1)
  rw [q7] at N1
  have K1 := Lib.hid (fun p w1 h => classes_of (p := p) awL_ok (a := awZ) (of_ok 97 26) w1 h)
  rw [q8] at K1
  have LE := Lib.hid (fun p w1 h => len_of (p := p) (l := []) w1 h)
  rw [q9] at LE
  have HL := Lib.hid (show (setCsL awL).toArray = #[.int .u64 (awA 0), .int .u64 (awA 1), .int .u64 (awA 2), .int .u64 (awA 3), .int .u64 (awB 0), .int .u64 (awB 1), .int .u64 (awB 2), .int .u64 (awB 3)] from rfl)
  have SL := Lib.hid (fun w1 => sets_lit w1 awL (by decide))
  rw [HL.out] at SL
  unfold setV at OA OB OZ O1 N1 K1
  clear q1 q2 q3 q4 q5 q6 q7 q8 q9 HL hT
  generalize awA = A at *
  generalize awB = B at *
  generalize awZ = Z at *
  generalize clSet awL 1 = C at *
  generalize clIn awL Z = I at *
  go_enter Tryd.func8, Tryd.ntmps8
  go_wp2_with fail
  refine (OA.out _).mono ?_; rintro e w1 ⟨rfl, k1⟩
  go_wp2_with fail
  refine (OB.out _).mono ?_; rintro e w2 ⟨rfl, k2⟩
  have W2 := Lib.hid (below_alloc (below_step k1 k2) (.cells #[.int .u64 (A 0), .int .u64 (A 1), .int .u64 (A 2), .int .u64 (A 3), .int .u64 (B 0), .int .u64 (B 1), .int .u64 (B 2), .int .u64 (B 3)] 35))
  clear k1 k2
  go_wp2_with fail
  refine (CC.out _ _ (SL.out _)).mono ?_; rintro e w3 ⟨p, rfl, _, hp3, k3⟩
  have W3 := Lib.hid (below_step W2.out k3)
  have P3 := Lib.hid hp3
  clear k3 hp3 W2
  go_wp2_with fail
  refine (S3.out _ _ (TabAt.below HT.out W3.out) P3.out).mono ?_; rintro e w4 ⟨rfl, k4⟩
  have W4 := Lib.hid (below_step W3.out k4)
  have P4 := Lib.hid (P3.out.below k4)
  clear k4 W3 P3
  go_wp2_with fail
  refine (S4.out _ _ (TabAt.below HT.out W4.out) P4.out).mono ?_; rintro e w5 ⟨rfl, k5⟩
  have W5 := Lib.hid (below_step W4.out k5)
  have P5 := Lib.hid (P4.out.below k5)
  clear k5 W4 P4
  go_wp2_with fail
  refine (LN.out _ _ P5.out).mono ?_; rintro e w6 ⟨rfl, k6⟩
  have W6 := Lib.hid (below_step W5.out k6)
  have P6 := Lib.hid (P5.out.below k6)
  clear k6 W5 P5
  go_wp2_with fail
  refine (C1.out _ _ P6.out).mono ?_; rintro e w7 ⟨rfl, k7⟩
  have W7 := Lib.hid (below_step W6.out k7)
  have P7 := Lib.hid (P6.out.below k7)
  clear k7 W6 P6
  go_wp2_with fail
  refine (C2.out _ _ P7.out).mono ?_; rintro e w8 ⟨rfl, k8⟩
  have W8 := Lib.hid (below_step W7.out k8)
  have P8 := Lib.hid (P7.out.below k8)
  clear k8 W7 P7
  go_wp2_with fail
  refine (C3.out _ _ P8.out).mono ?_; rintro e w9 ⟨rfl, k9⟩
  have W9 := Lib.hid (below_step W8.out k9)
  have P9 := Lib.hid (P8.out.below k9)
  clear k9 W8 P8
  go_wp2_with fail
  refine (C4.out _ _ P9.out).mono ?_; rintro e x0 ⟨rfl, k0⟩
  have X0 := Lib.hid (below_step W9.out k0)
  have Y0 := Lib.hid (P9.out.below k0)
  clear k0 W9 P9
  go_wp2_with fail
  refine (O1.out _ _ Y0.out).mono ?_; rintro e x1 ⟨rfl, k1⟩
  have X1 := Lib.hid (below_step X0.out k1)
  have Y1 := Lib.hid (Y0.out.below k1)
  clear k1 X0 Y0
  go_wp2_with fail
  refine (N1.out _).mono ?_; rintro e x2 ⟨rfl, k2⟩
  have X2 := Lib.hid (below_step X1.out k2)
  have Y2 := Lib.hid (Y1.out.below k2)
  clear k2 X1 Y1
  go_wp2_with fail
  refine (OZ.out _).mono ?_; rintro e x3 ⟨rfl, k3⟩
  have X3 := Lib.hid (below_step X2.out k3)
  have Y3 := Lib.hid (Y2.out.below k3)
  clear k3 X2 Y2
  go_wp2_with fail
  refine (K1.out _ _ Y3.out).mono ?_; rintro e x4 ⟨v4, rfl, ho4, k4⟩
  have X4 := Lib.hid (below_step X3.out k4)
  obtain ⟨ao4, cap4, rfl, _⟩ := own_form ho4
  clear k4 ho4 X3 Y3
  go_wp2_with fail
  refine (CN.out _).mono ?_; rintro e x5 ⟨p5, rfl, _, hp5, k5⟩
  have X5 := Lib.hid (below_step X4.out k5)
  have Y5 := Lib.hid hp5
  clear k5 hp5 X4
  go_wp2_with fail
  refine (LE.out _ _ Y5.out).mono ?_; rintro e x6 ⟨rfl, k6⟩
  have X6 := Lib.hid (below_step X5.out k6)
  clear k6 X5 Y5
  go_wp2_with fail
  go_returns
  exact ⟨rfl, X6.out⟩
end Go.Proofs.YtonicgbejmghkaaDoor
