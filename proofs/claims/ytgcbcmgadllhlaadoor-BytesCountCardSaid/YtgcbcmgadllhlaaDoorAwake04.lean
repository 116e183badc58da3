/- The walk of awake. -/
import Derived.Test.YtgcbcmgadllhlaaDoorText
namespace Go.Proofs.YtgcbcmgadllhlaaDoor
open Go.RowKit
def setX (i : Nat) : Nat := oneS 120 i ||| oneS 45 i
def setA : Nat → Nat := ofS 97 3
def setZ (_ : Nat) : Nat := 0
set_option maxRecDepth 100000 in
theorem aw_facts : textB setA = [91, 97, 45, 99, 93] ∧ textB setX = [91, 92, 120, 50, 100, 120, 93] ∧ cntS setA = 3 ∧ leastS setA = 97 ∧ leastS setZ = -1 ∧ textB (notS setZ) = [46] ∧ textB setZ = [91, 93] ∧ has setA 98 = true ∧ has setA 100 = false ∧ escB 0 = [92, 120, 48, 48] ∧ (rangesS setA).length = 1 := by decide +kernel
theorem ok_A : okS setA := of_ok 97 3
theorem one_ok (b : Nat) : okS (oneS b) := fun i => by
  unfold oneS; split
  · exact Nat.pow_lt_pow_right (n := 64) (a := 2) (by omega) (by omega)
  · omega
theorem or_ok {S T : Nat → Nat} (hS : okS S) (hT : okS T) : okS (fun i => S i ||| T i) := fun i => Nat.or_lt_two_pow (n := 64) (hS i) (hT i)
theorem ok_X : okS setX := or_ok (one_ok 120) (one_ok 45)
theorem ok_Z : okS setZ := fun _ => by unfold setZ; omega
theorem text_is {S : Nat → Nat} (hS : okS S) {l : List UInt8} (h : textB S = l) (w : World) (hT : TabAt 0 Lib.deBruijn64tab w) : Calls Tryd.prog 16 #[setV S] w fun e w' => e = .returned (.string ⟨l.toArray⟩) ∧ Below w.heap.size w w' := by
  rw [← h]; exact text_c S hS w hT
set_option maxHeartbeats 4000000 in
set_option maxRecDepth 100000 in
theorem awake_c (w : World) (hT : TabAt 0 Lib.deBruijn64tab w) : Calls Tryd.prog 11 #[] w fun e w' => e = .returned (.bool true) ∧ Below w.heap.size w w' := by
  have HT := Lib.hid hT
  clear hT
  obtain ⟨q1, q2, q3, q4, q5, q6, q7, q8, q9, q10, q11⟩ := aw_facts
  have OC := of_c 97 99 (by decide) (by decide)
  rw [show ofS 97 (99 + 1 - 97) = setA from rfl] at OC
  have O1 := one_c 120 (by decide)
  have O2 := one_c 45 (by decide)
  have ORC := or_c (oneS 120) (oneS 45) (one_ok _) (one_ok _)
  rw [show (fun i => oneS 120 i ||| oneS 45 i) = setX from rfl] at ORC
  have TA := text_is ok_A q1
  have TX := text_is ok_X q2
  have CA := count_c setA ok_A
  have LA := least_c setA ok_A
  have LZ := least_c setZ ok_Z
  have NZ := not_c setZ ok_Z
  rw [show (fun i => 18446744073709551615 - setZ i) = notS setZ from rfl] at NZ
  have TN := text_is not_ok q6
  have TZ := text_is ok_Z q7
  have H1 := has_c setA ok_A 98 (by decide)
  have H2 := has_c setA ok_A 100 (by decide)
  have E0 := esc_c 0 (by decide)
  have RA := ranges_c setA ok_A
  rw [q3] at CA
  rw [q4] at LA
  rw [q5] at LZ
  rw [q8] at H1
  rw [q9] at H2
  rw [q10] at E0
  rw [q11] at RA
  clear q1 q2 q3 q4 q5 q6 q7 q8 q9 q10 q11
  unfold setV at OC O1 O2 ORC TA TX CA LA LZ NZ TN TZ H1 H2 RA
  generalize oneS 120 = A1 at O1 ORC
  generalize oneS 45 = A2 at O2 ORC
  generalize setX = X at ORC TX
  generalize setA = A at OC TA CA LA H1 H2 RA
  generalize notS setZ = N at NZ TN
  unfold setZ at LZ NZ TZ
  go_enter Tryd.func11, Tryd.ntmps11
  go_wp2_with fail
  refine (OC _).mono ?_; rintro e w1 ⟨rfl, k1⟩
  have W1 := Lib.hid (below_step (Below.refl w.heap.size w) k1)
  clear k1
  have HB1 := Lib.hid (Blk.made w1 24 #[.int .u64 (A 0), .int .u64 (A 1), .int .u64 (A 2), .int .u64 (A 3)])
  have V1 := Lib.hid (below_alloc W1.out (.cells #[.int .u64 (A 0), .int .u64 (A 1), .int .u64 (A 2), .int .u64 (A 3)] 24))
  go_wp2_with fail
  refine (TA _ (TabAt.below HT.out V1.out)).mono ?_; rintro e w2 ⟨rfl, kk⟩
  have HB2 := Lib.hid (Blk.below HB1.out kk)
  have V2 := Lib.hid (below_step V1.out kk)
  clear kk HB1 V1
  have c0 : w2.cell? ⟨w1.heap.size, 0, none⟩ = some (.int .u64 (A 0)) := HB2.out.cell 0
  have c1 : w2.cell? ⟨w1.heap.size, 1, none⟩ = some (.int .u64 (A 1)) := HB2.out.cell 1
  have c2 : w2.cell? ⟨w1.heap.size, 2, none⟩ = some (.int .u64 (A 2)) := HB2.out.cell 2
  have c3 : w2.cell? ⟨w1.heap.size, 3, none⟩ = some (.int .u64 (A 3)) := HB2.out.cell 3
  go_wp2_with fail
  refine (O1 _).mono ?_; rintro e w3 ⟨rfl, kk⟩
  have HB3 := Lib.hid (Blk.below HB2.out kk)
  have V3 := Lib.hid (below_step V2.out kk)
  clear kk HB2 V2 c0 c1 c2 c3
  have c0 : w3.cell? ⟨w1.heap.size, 0, none⟩ = some (.int .u64 (A 0)) := HB3.out.cell 0
  have c1 : w3.cell? ⟨w1.heap.size, 1, none⟩ = some (.int .u64 (A 1)) := HB3.out.cell 1
  have c2 : w3.cell? ⟨w1.heap.size, 2, none⟩ = some (.int .u64 (A 2)) := HB3.out.cell 2
  have c3 : w3.cell? ⟨w1.heap.size, 3, none⟩ = some (.int .u64 (A 3)) := HB3.out.cell 3
  go_wp2_with fail
  refine (O2 _).mono ?_; rintro e w4 ⟨rfl, kk⟩
  have HB4 := Lib.hid (Blk.below HB3.out kk)
  have V4 := Lib.hid (below_step V3.out kk)
  clear kk HB3 V3 c0 c1 c2 c3
  have c0 : w4.cell? ⟨w1.heap.size, 0, none⟩ = some (.int .u64 (A 0)) := HB4.out.cell 0
  have c1 : w4.cell? ⟨w1.heap.size, 1, none⟩ = some (.int .u64 (A 1)) := HB4.out.cell 1
  have c2 : w4.cell? ⟨w1.heap.size, 2, none⟩ = some (.int .u64 (A 2)) := HB4.out.cell 2
  have c3 : w4.cell? ⟨w1.heap.size, 3, none⟩ = some (.int .u64 (A 3)) := HB4.out.cell 3
  go_wp2_with fail
  refine (ORC _).mono ?_; rintro e w5 ⟨rfl, kk⟩
  have HB5 := Lib.hid (Blk.below HB4.out kk)
  have V5 := Lib.hid (below_step V4.out kk)
  clear kk HB4 V4 c0 c1 c2 c3
  have c0 : w5.cell? ⟨w1.heap.size, 0, none⟩ = some (.int .u64 (A 0)) := HB5.out.cell 0
  have c1 : w5.cell? ⟨w1.heap.size, 1, none⟩ = some (.int .u64 (A 1)) := HB5.out.cell 1
  have c2 : w5.cell? ⟨w1.heap.size, 2, none⟩ = some (.int .u64 (A 2)) := HB5.out.cell 2
  have c3 : w5.cell? ⟨w1.heap.size, 3, none⟩ = some (.int .u64 (A 3)) := HB5.out.cell 3
  go_wp2_with fail
  refine (TX _ (TabAt.below HT.out V5.out)).mono ?_; rintro e w6 ⟨rfl, kk⟩
  have HB6 := Lib.hid (Blk.below HB5.out kk)
  have V6 := Lib.hid (below_step V5.out kk)
  clear kk HB5 V5 c0 c1 c2 c3
  have c0 : w6.cell? ⟨w1.heap.size, 0, none⟩ = some (.int .u64 (A 0)) := HB6.out.cell 0
  have c1 : w6.cell? ⟨w1.heap.size, 1, none⟩ = some (.int .u64 (A 1)) := HB6.out.cell 1
  have c2 : w6.cell? ⟨w1.heap.size, 2, none⟩ = some (.int .u64 (A 2)) := HB6.out.cell 2
  have c3 : w6.cell? ⟨w1.heap.size, 3, none⟩ = some (.int .u64 (A 3)) := HB6.out.cell 3
  go_wp2_with fail
  refine (CA _).mono ?_; rintro e w7 ⟨rfl, kk⟩
  have HB7 := Lib.hid (Blk.below HB6.out kk)
  have V7 := Lib.hid (below_step V6.out kk)
  clear kk HB6 V6 c0 c1 c2 c3
  have c0 : w7.cell? ⟨w1.heap.size, 0, none⟩ = some (.int .u64 (A 0)) := HB7.out.cell 0
  have c1 : w7.cell? ⟨w1.heap.size, 1, none⟩ = some (.int .u64 (A 1)) := HB7.out.cell 1
  have c2 : w7.cell? ⟨w1.heap.size, 2, none⟩ = some (.int .u64 (A 2)) := HB7.out.cell 2
  have c3 : w7.cell? ⟨w1.heap.size, 3, none⟩ = some (.int .u64 (A 3)) := HB7.out.cell 3
  go_wp2_with fail
  refine (LA _ (TabAt.below HT.out V7.out)).mono ?_; rintro e w8 ⟨rfl, kk⟩
  have HB8 := Lib.hid (Blk.below HB7.out kk)
  have V8 := Lib.hid (below_step V7.out kk)
  clear kk HB7 V7 c0 c1 c2 c3
  have c0 : w8.cell? ⟨w1.heap.size, 0, none⟩ = some (.int .u64 (A 0)) := HB8.out.cell 0
  have c1 : w8.cell? ⟨w1.heap.size, 1, none⟩ = some (.int .u64 (A 1)) := HB8.out.cell 1
  have c2 : w8.cell? ⟨w1.heap.size, 2, none⟩ = some (.int .u64 (A 2)) := HB8.out.cell 2
  have c3 : w8.cell? ⟨w1.heap.size, 3, none⟩ = some (.int .u64 (A 3)) := HB8.out.cell 3
  go_wp2_with fail
  refine (LZ _ (TabAt.below HT.out V8.out)).mono ?_; rintro e w9 ⟨rfl, kk⟩
  have HB9 := Lib.hid (Blk.below HB8.out kk)
  have V9 := Lib.hid (below_step V8.out kk)
  clear kk HB8 V8 c0 c1 c2 c3
  have c0 : w9.cell? ⟨w1.heap.size, 0, none⟩ = some (.int .u64 (A 0)) := HB9.out.cell 0
  have c1 : w9.cell? ⟨w1.heap.size, 1, none⟩ = some (.int .u64 (A 1)) := HB9.out.cell 1
  have c2 : w9.cell? ⟨w1.heap.size, 2, none⟩ = some (.int .u64 (A 2)) := HB9.out.cell 2
  have c3 : w9.cell? ⟨w1.heap.size, 3, none⟩ = some (.int .u64 (A 3)) := HB9.out.cell 3
  go_wp2_with fail
  refine (NZ _).mono ?_; rintro e w10 ⟨rfl, kk⟩
  have HB10 := Lib.hid (Blk.below HB9.out kk)
  have V10 := Lib.hid (below_step V9.out kk)
  clear kk HB9 V9 c0 c1 c2 c3
  have c0 : w10.cell? ⟨w1.heap.size, 0, none⟩ = some (.int .u64 (A 0)) := HB10.out.cell 0
  have c1 : w10.cell? ⟨w1.heap.size, 1, none⟩ = some (.int .u64 (A 1)) := HB10.out.cell 1
  have c2 : w10.cell? ⟨w1.heap.size, 2, none⟩ = some (.int .u64 (A 2)) := HB10.out.cell 2
  have c3 : w10.cell? ⟨w1.heap.size, 3, none⟩ = some (.int .u64 (A 3)) := HB10.out.cell 3
  go_wp2_with fail
  refine (TN _ (TabAt.below HT.out V10.out)).mono ?_; rintro e w11 ⟨rfl, kk⟩
  have HB11 := Lib.hid (Blk.below HB10.out kk)
  have V11 := Lib.hid (below_step V10.out kk)
  clear kk HB10 V10 c0 c1 c2 c3
  have c0 : w11.cell? ⟨w1.heap.size, 0, none⟩ = some (.int .u64 (A 0)) := HB11.out.cell 0
  have c1 : w11.cell? ⟨w1.heap.size, 1, none⟩ = some (.int .u64 (A 1)) := HB11.out.cell 1
  have c2 : w11.cell? ⟨w1.heap.size, 2, none⟩ = some (.int .u64 (A 2)) := HB11.out.cell 2
  have c3 : w11.cell? ⟨w1.heap.size, 3, none⟩ = some (.int .u64 (A 3)) := HB11.out.cell 3
  go_wp2_with fail
  refine (TZ _ (TabAt.below HT.out V11.out)).mono ?_; rintro e w12 ⟨rfl, kk⟩
  have HB12 := Lib.hid (Blk.below HB11.out kk)
  have V12 := Lib.hid (below_step V11.out kk)
  clear kk HB11 V11 c0 c1 c2 c3
  have c0 : w12.cell? ⟨w1.heap.size, 0, none⟩ = some (.int .u64 (A 0)) := HB12.out.cell 0
  have c1 : w12.cell? ⟨w1.heap.size, 1, none⟩ = some (.int .u64 (A 1)) := HB12.out.cell 1
  have c2 : w12.cell? ⟨w1.heap.size, 2, none⟩ = some (.int .u64 (A 2)) := HB12.out.cell 2
  have c3 : w12.cell? ⟨w1.heap.size, 3, none⟩ = some (.int .u64 (A 3)) := HB12.out.cell 3
  go_wp2_with fail
  refine (H1 _).mono ?_; rintro e w13 ⟨rfl, kk⟩
  have HB13 := Lib.hid (Blk.below HB12.out kk)
  have V13 := Lib.hid (below_step V12.out kk)
  clear kk HB12 V12 c0 c1 c2 c3
  have c0 : w13.cell? ⟨w1.heap.size, 0, none⟩ = some (.int .u64 (A 0)) := HB13.out.cell 0
  have c1 : w13.cell? ⟨w1.heap.size, 1, none⟩ = some (.int .u64 (A 1)) := HB13.out.cell 1
  have c2 : w13.cell? ⟨w1.heap.size, 2, none⟩ = some (.int .u64 (A 2)) := HB13.out.cell 2
  have c3 : w13.cell? ⟨w1.heap.size, 3, none⟩ = some (.int .u64 (A 3)) := HB13.out.cell 3
  go_wp2_with fail
  refine (H2 _).mono ?_; rintro e w14 ⟨rfl, kk⟩
  have HB14 := Lib.hid (Blk.below HB13.out kk)
  have V14 := Lib.hid (below_step V13.out kk)
  clear kk HB13 V13 c0 c1 c2 c3
  have c0 : w14.cell? ⟨w1.heap.size, 0, none⟩ = some (.int .u64 (A 0)) := HB14.out.cell 0
  have c1 : w14.cell? ⟨w1.heap.size, 1, none⟩ = some (.int .u64 (A 1)) := HB14.out.cell 1
  have c2 : w14.cell? ⟨w1.heap.size, 2, none⟩ = some (.int .u64 (A 2)) := HB14.out.cell 2
  have c3 : w14.cell? ⟨w1.heap.size, 3, none⟩ = some (.int .u64 (A 3)) := HB14.out.cell 3
  go_wp2_with fail
  refine (E0 _).mono ?_; rintro e w15 ⟨rfl, kk⟩
  have HB15 := Lib.hid (Blk.below HB14.out kk)
  have V15 := Lib.hid (below_step V14.out kk)
  clear kk HB14 V14 c0 c1 c2 c3
  have c0 : w15.cell? ⟨w1.heap.size, 0, none⟩ = some (.int .u64 (A 0)) := HB15.out.cell 0
  have c1 : w15.cell? ⟨w1.heap.size, 1, none⟩ = some (.int .u64 (A 1)) := HB15.out.cell 1
  have c2 : w15.cell? ⟨w1.heap.size, 2, none⟩ = some (.int .u64 (A 2)) := HB15.out.cell 2
  have c3 : w15.cell? ⟨w1.heap.size, 3, none⟩ = some (.int .u64 (A 3)) := HB15.out.cell 3
  go_wp2_with fail
  refine (RA _).mono ?_; rintro e w16 ⟨v, rfl, ho, kk⟩
  have HB16 := Lib.hid (Blk.below HB15.out kk)
  have V16 := Lib.hid (below_step V15.out kk)
  obtain ⟨ao, cap, rfl, _⟩ := own_form ho
  clear ho
  clear kk HB15 V15 c0 c1 c2 c3
  have c0 : w16.cell? ⟨w1.heap.size, 0, none⟩ = some (.int .u64 (A 0)) := HB16.out.cell 0
  have c1 : w16.cell? ⟨w1.heap.size, 1, none⟩ = some (.int .u64 (A 1)) := HB16.out.cell 1
  have c2 : w16.cell? ⟨w1.heap.size, 2, none⟩ = some (.int .u64 (A 2)) := HB16.out.cell 2
  have c3 : w16.cell? ⟨w1.heap.size, 3, none⟩ = some (.int .u64 (A 3)) := HB16.out.cell 3
  go_wp2_with fail
  go_ret
  exact ⟨rfl, V16.out⟩
end Go.Proofs.YtgcbcmgadllhlaaDoor
