/- The walk of PartsNil. -/
import Derived.Test.YtonicgbejmghkaaDoorPtEq
namespace Go.Proofs.YtonicgbejmghkaaDoor
open Go.RowKit
attribute [local irreducible] Calls nc cl lb cntS clSet clIn ofS
set_option maxHeartbeats 4000000 in
set_option maxRecDepth 100000 in
theorem nil_c (c : Int) (a : Nat → Nat) (ha : okS a) (w : World) (hT : TabAt 0 Lib.deBruijn64tab w) : Calls Tryd.prog 6 #[.int .i64 c, setV a] w fun e w' => e = .returned (.bool true) ∧ Below w.heap.size w w' := by
  have HT := Lib.hid hT
  have hok : ∀ S ∈ [a], okS S := by intro S hS; rw [List.mem_singleton.1 hS]; exact ha
  have AW := Lib.hid (fun w1 ht => awake_c w1 ht)
  have SN := Lib.hid (fun w1 ht => smp_nil c w1 ht)
  rw [smp_zero] at SN
  have SL := Lib.hid (fun w1 => sets_lit w1 [a] (by simp))
  rw [show (setCsL [a]).toArray = #[.int .u64 (a 0), .int .u64 (a 1), .int .u64 (a 2), .int .u64 (a 3)] from rfl] at SL
  have CC := Lib.hid (fun v w1 h => cut_c [a] hok (by simp) v w1 h)
  have LN := Lib.hid (fun p w1 h => len_of (p := p) (l := [a]) w1 h)
  have S4 := Lib.hid (fun p w1 ht h => smp_of (p := p) hok (nc [a] : Nat) w1 ht h)
  rw [show smp (clSet [a] (nc [a] : Nat)) = .tuple #[.int .u8 0, .bool false] from by rw [clSet_out (.inr (Int.le_refl _)), smp_zero]] at S4
  have L0 := Lib.hid len_nil
  have C0 := Lib.hid (fun w1 => show Calls Tryd.prog 12 #[.pointer none, .int .u8 7] w1 fun e w' => e = .returned (.int .i64 0) ∧ Below w1.heap.size w1 w' from class_nil 7 w1)
  have P0 := Lib.hid (fun w1 => show Calls Tryd.prog 14 #[.pointer none, .int .i64 c] w1 fun e w' => e = .returned (.agg #[.int .u64 0, .int .u64 0, .int .u64 0, .int .u64 0]) ∧ Below w1.heap.size w1 w' from pof_nil c w1)
  have R0 := Lib.hid remap_nil
  have K0 := Lib.hid (fun w1 => classes_nil a w1)
  have PM := Lib.hid (fun p w1 h => of_of (p := p) (l := [a]) (-1) w1 h)
  rw [clSet_out (.inl (by decide)), show setV zeroS = .agg #[.int .u64 0, .int .u64 0, .int .u64 0, .int .u64 0] from rfl] at PM
  have ES := fun w1 => set_same 0 0 0 0 w1
  have ER := rm_zero
  have Z := (zero_of_info info_r).1
  rw [zero_bytes] at Z
  have hnc := nc_le [a]
  generalize bytesV (List.replicate 256 0) = zz at *
  generalize nc [a] = n at *
  have HA := Lib.hid (Blk.made w 35 (setCs a))
  have W0 := Lib.hid (below_alloc (Below.refl w.heap.size w) (.cells (setCs a) 35))
  unfold setCs at HA W0
  unfold setV at K0
  unfold setV
  clear hT hok ha
  go_enter Tryd.func6, Tryd.ntmps6
  go_wp2_with fail
  refine (SN.out _ (TabAt.below HT.out W0.out)).mono ?_; rintro e w1 ⟨rfl, k1⟩
  have W1 := Lib.hid (below_step W0.out k1)
  have A1 := Lib.hid (HA.out.below k1)
  clear k1 W0 HA
  obtain ⟨a0, a1, a2, a3⟩ := Blk.four (S := a) A1.out
  have W1' := Lib.hid (below_alloc W1.out (.cells #[.int .u64 (a 0), .int .u64 (a 1), .int .u64 (a 2), .int .u64 (a 3)] 35))
  have A1' := Lib.hid (A1.out.alloc (.cells #[.int .u64 (a 0), .int .u64 (a 1), .int .u64 (a 2), .int .u64 (a 3)] 35))
  go_wp2_with fail
  refine (CC.out _ _ (SL.out _)).mono ?_; rintro e w3 ⟨p, rfl, _, hp3, k3⟩
  have W3 := Lib.hid (below_step W1'.out k3)
  have A3 := Lib.hid (A1'.out.below k3)
  have P3 := Lib.hid hp3
  clear k3 hp3 W1 W1' A1 A1' a0 a1 a2 a3
  go_wp2_with fail
  refine (LN.out _ _ P3.out).mono ?_; rintro e w4 ⟨rfl, k4⟩
  have W4 := Lib.hid (below_step W3.out k4)
  have P4 := Lib.hid (P3.out.below k4)
  have A4 := Lib.hid (A3.out.below k4)
  clear k4 W3 P3 A3
  go_wp2_with fail
  refine (S4.out _ _ (TabAt.below HT.out W4.out) P4.out).mono ?_; rintro e w5 ⟨rfl, k5⟩
  have W5 := Lib.hid (below_step W4.out k5)
  have P5 := Lib.hid (P4.out.below k5)
  have A5 := Lib.hid (A4.out.below k5)
  clear k5 W4 P4 A4
  go_wp2_with fail
  refine (AW.out _ (TabAt.below HT.out W5.out)).mono ?_; rintro e w6 ⟨rfl, k6⟩
  have W6 := Lib.hid (below_step W5.out k6)
  have P6 := Lib.hid (P5.out.below k6)
  have A6 := Lib.hid (A5.out.below k6)
  clear k6 W5 P5 A5
  go_wp2_with fail
  refine (L0.out _).mono ?_; rintro e w7 ⟨rfl, k7⟩
  have W7 := Lib.hid (below_step W6.out k7)
  have P7 := Lib.hid (P6.out.below k7)
  have A7 := Lib.hid (A6.out.below k7)
  clear k7 W6 P6 A6
  go_wp2_with fail
  refine (C0.out _).mono ?_; rintro e w8 ⟨rfl, k8⟩
  have W8 := Lib.hid (below_step W7.out k8)
  have P8 := Lib.hid (P7.out.below k8)
  have A8 := Lib.hid (A7.out.below k8)
  clear k8 W7 P7 A7
  go_wp2_with fail
  refine (P0.out _).mono ?_; rintro e w9 ⟨rfl, k9⟩
  have W9 := Lib.hid (below_step W8.out k9)
  have P9 := Lib.hid (P8.out.below k9)
  have A9 := Lib.hid (A8.out.below k9)
  clear k9 W8 P8 A8
  go_wp2_with fail
  refine (R0.out _).mono ?_; rintro e x0 ⟨rfl, k0⟩
  have X0 := Lib.hid (below_step W9.out k0)
  have Q0 := Lib.hid (P9.out.below k0)
  have B0 := Lib.hid (A9.out.below k0)
  clear k0 W9 P9 A9
  obtain ⟨a0, a1, a2, a3⟩ := Blk.four (S := a) B0.out
  go_wp2_with fail
  refine (K0.out _).mono ?_; rintro e x1 ⟨rfl, k1⟩
  have X1 := Lib.hid (below_step X0.out k1)
  have Q1 := Lib.hid (Q0.out.below k1)
  clear k1 X0 Q0 B0 a0 a1 a2 a3
  go_wp2_with fail
  refine (PM.out _ _ Q1.out).mono ?_; rintro e x2 ⟨rfl, k2⟩
  have X2 := Lib.hid (below_step X1.out k2)
  clear k2 X1 Q1
  go_wp2_with fail
  go_returns
  exact ⟨rfl, X2.out⟩
end Go.Proofs.YtonicgbejmghkaaDoor
