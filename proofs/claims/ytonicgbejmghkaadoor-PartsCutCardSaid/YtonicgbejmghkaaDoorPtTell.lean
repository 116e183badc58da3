/- The walk of PartsTell. -/
import Derived.Test.YtonicgbejmghkaaDoorPtCopy
namespace Go.Proofs.YtonicgbejmghkaaDoor
open Go.RowKit
/-- How many bytes the first classes have. -/
def sumC (l : List (Nat → Nat)) (c : Nat) : Nat := (((clsSets l).take c).map cntS).sum
theorem clSet_nat {l : List (Nat → Nat)} {c : Nat} (hc : c < nc l) : clSet l (c : Nat) = (clsSets l)[c]'(by rw [clsSets_len]; exact hc) := by
  unfold clSet ofK
  rw [if_pos ⟨by omega, by rw [clsSets_len]; omega⟩, List.getD_eq_getElem?_getD, Int.toNat_natCast, List.getElem?_eq_getElem (by rw [clsSets_len]; exact hc)]; rfl
theorem sumC_succ {l : List (Nat → Nat)} {c : Nat} (hc : c < nc l) : sumC l (c + 1) = sumC l c + cntS (clSet l (c : Nat)) := by
  unfold sumC
  rw [List.take_succ_eq_append_getElem (by rw [clsSets_len]; exact hc), clSet_nat hc, List.map_append, List.sum_append, List.map_singleton, List.sum_cons, List.sum_nil, Nat.add_zero]
theorem sumC_all {l : List (Nat → Nat)} (ho : ∀ S ∈ l, okS S) : sumC l (nc l) = 256 := by
  unfold sumC
  rw [← clsSets_len, List.take_length]
  exact cls_one (isCls_sets l ho)
theorem sumC_0 (l : List (Nat → Nat)) : sumC l 0 = 0 := rfl
theorem sum_take_le (f : (Nat → Nat) → Nat) : ∀ (K : List (Nat → Nat)) (c : Nat), ((K.take c).map f).sum ≤ (K.map f).sum
  | [], c => by simp
  | S :: K, 0 => by simp
  | S :: K, c + 1 => by
    have := sum_take_le f K c
    simp only [List.take_succ_cons, List.map_cons, List.sum_cons]; omega
theorem sumC_le {l : List (Nat → Nat)} (ho : ∀ S ∈ l, okS S) (c : Nat) : sumC l c ≤ 256 := by
  have := sum_take_le cntS (clsSets l) c
  rw [cls_one (isCls_sets l ho)] at this
  exact this
theorem cntS_le' (S : Nat → Nat) : cntS S ≤ 256 := cntB_le _ _
attribute [local irreducible] Calls nc cl lb cntS clSet fnV rmV sumC
set_option maxHeartbeats 4000000 in
set_option maxRecDepth 100000 in
theorem tell_big (l : List (Nat → Nat)) (hl : 30 < l.length) (v : Value) (w : World) (hv : SetsR w v l) (hT : TabAt 0 Lib.deBruijn64tab w) : Calls Tryd.prog 3 #[v] w fun e w' => e = .returned (.bool true) ∧ Below w.heap.size w w' := by
  have AW := Lib.hid (fun w1 ht => awake_c w1 ht)
  have HT := Lib.hid hT
  obtain ⟨ao, cap, rfl, _⟩ := hv
  have t1 : decide ((30 : Int) < (l.length : Nat)) = true := by simp; omega
  clear hT
  go_enter Tryd.func3, Tryd.ntmps3
  go_wp2_with fail
  refine (AW.out _ HT.out).mono ?_; rintro e w1 ⟨rfl, k1⟩
  go_wp2_with fail
  refine (AW.out _ (TabAt.below HT.out k1)).mono ?_; rintro e w2 ⟨rfl, k2⟩
  go_wp2_with fail
  go_returns
  exact ⟨rfl, below_step k1 k2⟩
set_option maxHeartbeats 4000000 in
set_option maxRecDepth 100000 in
theorem tell_few (l : List (Nat → Nat)) (ho : ∀ S ∈ l, okS S) (hl : l.length ≤ 30) (v : Value) (w : World) (hv : SetsR w v l) (hN : Nil0 v) (hT : TabAt 0 Lib.deBruijn64tab w) : Calls Tryd.prog 3 #[v] w fun e w' => e = .returned (.bool true) ∧ Below w.heap.size w w' := by
  have AW := Lib.hid (fun w1 ht => awake_c w1 ht)
  have HT := Lib.hid hT
  have HN := Lib.hid hN
  have HV := Lib.hid hv
  have t1 : decide ((30 : Int) < (l.length : Nat)) = false := by simp; omega
  have CC := Lib.hid (fun v1 w1 h => cut_c l ho (by omega) v1 w1 h)
  have RC := Lib.hid (fun w1 h => rremap_c l ho (by omega) v w1 h)
  have RM := Lib.hid (fun p w1 h => remap_of (p := p) (l := l) w1 h)
  have LC := Lib.hid (fun p w1 h => len_of (p := p) (l := l) w1 h)
  have SC := Lib.hid (fun p (c : Nat) w1 ht h => smp_of (p := p) ho (c : Nat) w1 ht h)
  have CB := Lib.hid (fun p b hb w1 h => class_of (p := p) (l := l) (b := b) hb w1 h)
  have OC := Lib.hid (fun p (c : Nat) w1 h => of_of (p := p) (l := l) (c : Nat) w1 h)
  have HOK := Lib.hid ho
  have hnc := nc_le l
  have hcl := fun b (hb : b < 256) => cl_lt l hb
  obtain ⟨ao, cap, rfl, _⟩ := hv
  have Z := (zero_of_info info_ai).1
  rw [zero_fn] at Z
  have Z2 := (zero_of_info info_r).1
  rw [zero_bytes] at Z2
  have hfz := fnV_size fun _ => 0
  have hrz : (bytesV (List.replicate 256 0)).size = 256 := by rw [bytesV_size, List.length_replicate]
  have e4 := fnV_size (cl l)
  have e5 := rmV_size l
  have ON : (rmV l).all (·.oneCell') = true := by unfold rmV; exact bytesV_one _
  have FA := Lib.hid (fun b (hb : b < 256) => fnV_at (cl l) hb)
  have RA := Lib.hid (fun b (hb : b < 256) => rmV_at l hb)
  have ST := fun W => run_storeCells_new (P := Tryd.prog) W 26 (fnV fun _ => 0) (fnV (cl l)) (by rw [(zero_of_info info_ai).2, fnV_size]) (by rw [hfz, e4]) (fnV_one _)
  have ST2 := fun W => run_storeCells_new (P := Tryd.prog) W 29 (bytesV (List.replicate 256 0)) (rmV l) (by rw [(zero_of_info info_r).2, e5]) (by rw [hrz, e5]) ON
  generalize (fnV fun _ => 0) = fz at *
  generalize bytesV (List.replicate 256 0) = rz at *
  generalize fnV (cl l) = FV at *
  generalize rmV l = RV at *
  clear hT hN hfz hrz ON ho
  go_enter Tryd.func3, Tryd.ntmps3
  go_wp2_with fail
  refine (AW.out _ HT.out).mono ?_; rintro e w1 ⟨rfl, k1⟩
  have W1 := Lib.hid k1
  have hs1 := k1.size
  have V1 := Lib.hid (HV.out.below (below_alloc W1.out (.cells #[] 35)))
  have W1' := Lib.hid (below_alloc W1.out (.cells #[] 35))
  have ON1 := Lib.hid (own_none w1 w.heap.size k1.size)
  clear k1
  go_wp2_with (at_builtin; refine wpList_copy rfl _ _ rfl w.heap.size [] l _ _ rfl ON1.out rfl V1.out HN.out (by simp; omega) (by rw [World.size_alloc]; omega) ?_)
  intro v2 w2 ho2 hg2
  have S2 := Lib.hid (own_sets ho2)
  have W2 := Lib.hid (Below.grown W1'.out hg2 (by rw [World.size_alloc]; omega) (fun g h => (ON1.out.lt g h).1))
  clear ho2 hg2 ON1 W1' V1 W1
  go_wp2_with fail
  refine (CC.out _ _ S2.out).mono ?_; rintro e w3 ⟨p, rfl, _, hp3, k3⟩
  have W3 := Lib.hid (below_step W2.out k3)
  have P3 := Lib.hid hp3
  clear k3 hp3 S2 W2
  go_wp2_with fail
  refine (RC.out _ (HV.out.below W3.out)).mono ?_; rintro e w4 ⟨rfl, k4⟩
  have W4 := Lib.hid (below_alloc (below_step W3.out k4) (.cells FV 26))
  have P4 := Lib.hid ((P3.out.below k4).below (below_alloc (Below.refl _ _) (.cells FV 26)))
  have F4 := Lib.hid (Blk.made w4 26 FV)
  clear k4 W3 P3
  go_wp2_with fail
  refine (RM.out _ _ P4.out).mono ?_; rintro e w5 ⟨rfl, k5⟩
  have W5 := Lib.hid (below_alloc (below_step W4.out k5) (.cells RV 29))
  have P5 := Lib.hid ((P4.out.below k5).below (below_alloc (Below.refl _ _) (.cells RV 29)))
  have F5 := Lib.hid ((F4.out.below k5).alloc (.cells RV 29))
  have R5 := Lib.hid (Blk.made w5 29 RV)
  clear k5 W4 P4 F4
  go_wp2_with fail
  clear Z Z2 ST ST2
  generalize w4.heap.size = g4 at *
  generalize w5.heap.size = g6 at *
  generalize w5.alloc _ = wz at *
  go_loopw [32] (fun j wx => ∃ b : Nat, b ≤ 256 ∧ j = .int .i64 b ∧ Blk wx g4 26 FV ∧ Blk wx g6 29 RV ∧ PtOf wx p l ∧ Below w.heap.size w wx) (fun j _ => 256 - (intOf j).toNat)
  case atStart => exact ⟨0, by omega, rfl, F5.out, R5.out, P5.out, W5.out⟩
  case round =>
    clear F5 R5 P5 W5
    obtain ⟨b, hb, rfl, hf, hr, hp, hw⟩ := hrel
    by_cases hlt : b < 256
    · have t2 : decide ((b : Int) < 256) = true := by simp; omega
      have hc := hcl b hlt
      have h6 : IntKind.u8.wrap (b : Int) = b := IntWalk.u8_in _ (by omega)
      have h7 : IntKind.i64.wrap ((cl l b : Nat) : Int) = (cl l b : Nat) := IntWalk.i64_in _ (by omega)
      have HH := Lib.hid (fun w1 => has_c (clSet l (cl l b : Nat)) (clSet_ok HOK.out _) b hlt w1)
      rw [clSet_at HOK.out hc hlt, decide_eq_true rfl] at HH
      have OB := Lib.hid (fun w1 h => OC.out p (cl l b) w1 h)
      have CQ := Lib.hid (fun w1 h => CB.out p b hlt w1 h)
      have HF := Lib.hid hf
      have HR := Lib.hid hr
      have HP := Lib.hid hp
      have HW := Lib.hid hw
      have FB := Lib.hid (FA.out b hlt)
      have RB := Lib.hid (RA.out b hlt)
      clear hf hr hp hw
      unfold setV at HH OB
      generalize clSet l (cl l b : Nat) = S at *
      generalize cl l b = c at *
      go_wp2_with fail
      refine (CQ.out _ HP.out).mono ?_; rintro e w6 ⟨rfl, k6⟩
      have HF6 := Lib.hid (HF.out.below k6)
      have HR6 := Lib.hid (HR.out.below k6)
      have HP6 := Lib.hid (HP.out.below k6)
      have HW6 := Lib.hid (below_step HW.out k6)
      have c0 : w6.cell? ⟨g4, b, none⟩ = some (.int .i64 (c : Nat)) := (HF6.out.cell b).trans FB.out
      have c1 : w6.cell? ⟨g6, b, none⟩ = some (.int .u8 (c : Nat)) := (HR6.out.cell b).trans RB.out
      clear k6 HF HR HP HW
      go_wp2_with fail
      refine (OB.out _ HP6.out).mono ?_; rintro e w7 ⟨rfl, k7⟩
      have HF7 := Lib.hid (HF6.out.below k7)
      have HR7 := Lib.hid (HR6.out.below k7)
      have HP7 := Lib.hid (HP6.out.below k7)
      have HW7 := Lib.hid (below_step HW6.out k7)
      clear k7 HF6 HR6 HP6 HW6 c0 c1
      go_wp2_with fail
      refine (HH.out _).mono ?_; rintro e w8 ⟨rfl, k8⟩
      have HF8 := Lib.hid (HF7.out.below k8)
      have HR8 := Lib.hid (HR7.out.below k8)
      have HP8 := Lib.hid (HP7.out.below k8)
      have HW8 := Lib.hid (below_step HW7.out k8)
      clear k8 HF7 HR7 HP7 HW7
      go_wp2_with fail
      go_roundw
      case rel => exact ⟨b + 1, by omega, by go_num, HF8.out, HR8.out, HP8.out, HW8.out⟩
      case measure => go_light; simp [intOf]; omega
    · have t2 : decide ((b : Int) < 256) = false := by simp; omega
      have HF := Lib.hid hf
      have HP := Lib.hid hp
      have HW := Lib.hid hw
      clear hf hr hp hw
      go_wp2_with fail
      go_loopw [9, 63] (fun s j wx => ∃ c : Nat, c ≤ nc l ∧ j = .int .i64 c ∧ s = .int .i64 (sumC l c : Nat) ∧ Blk wx g4 26 FV ∧ PtOf wx p l ∧ Below w.heap.size w wx) (fun _ j _ => nc l - (intOf j).toNat)
      case atStart => exact ⟨0, by omega, rfl, by rw [sumC_0]; rfl, HF.out, HP.out, HW.out⟩
      case round =>
        clear HF HP HW
        obtain ⟨c, hc, rfl, rfl, hf, hp, hw⟩ := hrel
        have hsl := sumC_le HOK.out c
        by_cases hlc : c < nc l
        · have t3 : decide (c < nc l) = true := by simp; omega
          have SS := Lib.hid (sumC_succ hlc)
          have hsl2 := sumC_le HOK.out (c + 1)
          rw [SS.out] at hsl2
          obtain ⟨hb1, hb2, _⟩ := lb_fact l hlc
          have SQ := Lib.hid (fun w1 ht h => SC.out p c w1 ht h)
          rw [smp_in HOK.out hlc] at SQ
          have OQ := Lib.hid (fun w1 h => OC.out p c w1 h)
          have NQ := Lib.hid (fun w1 => count_c (clSet l (c : Nat)) (clSet_ok HOK.out _) w1)
          have FB := Lib.hid (FA.out (lb l c) hb1)
          rw [hb2] at FB
          have HF := Lib.hid hf
          have HP := Lib.hid hp
          have HW := Lib.hid hw
          clear hf hp hw hb2
          unfold setV at OQ NQ
          generalize cntS (clSet l (c : Nat)) = q at *
          generalize clSet l (c : Nat) = S at *
          generalize lb l c = x at *
          generalize sumC l c = s at *
          go_wp2_with fail
          refine (SQ.out _ (TabAt.below HT.out HW.out) HP.out).mono ?_; rintro e w6 ⟨rfl, k6⟩
          have HF6 := Lib.hid (HF.out.below k6)
          have HP6 := Lib.hid (HP.out.below k6)
          have HW6 := Lib.hid (below_step HW.out k6)
          have c0 : w6.cell? ⟨g4, x, none⟩ = some (.int .i64 (c : Nat)) := (HF6.out.cell x).trans FB.out
          clear k6 HF HP HW
          go_wp2_with fail
          refine (OQ.out _ HP6.out).mono ?_; rintro e w7 ⟨rfl, k7⟩
          have HF7 := Lib.hid (HF6.out.below k7)
          have HP7 := Lib.hid (HP6.out.below k7)
          have HW7 := Lib.hid (below_step HW6.out k7)
          clear k7 HF6 HP6 HW6 c0
          go_wp2_with fail
          refine (NQ.out _).mono ?_; rintro e w8 ⟨rfl, k8⟩
          have HF8 := Lib.hid (HF7.out.below k8)
          have HP8 := Lib.hid (HP7.out.below k8)
          have HW8 := Lib.hid (below_step HW7.out k8)
          clear k8 HF7 HP7 HW7
          go_wp2_with fail
          go_roundw
          case rel => exact ⟨c + 1, by omega, by go_num, by rw [SS.out]; go_num, HF8.out, HP8.out, HW8.out⟩
          case measure => go_light; simp [intOf]; omega
        · obtain rfl : c = nc l := by omega
          have e256 := sumC_all HOK.out
          rw [e256]
          have LQ := Lib.hid (fun w1 h => LC.out p w1 h)
          have HP := Lib.hid hp
          have HW := Lib.hid hw
          clear hf hp hw hsl
          generalize nc l = n at *
          go_wp2_with fail
          refine (LQ.out _ HP.out).mono ?_; rintro e w6 ⟨rfl, k6⟩
          have HW6 := Lib.hid (below_step HW.out k6)
          clear k6 HP HW
          go_wp2_with fail
          go_returns
          exact ⟨rfl, HW6.out⟩
theorem tell_c (l : List (Nat → Nat)) (ho : ∀ S ∈ l, okS S) (v : Value) (w : World) (hv : SetsR w v l) (hN : Nil0 v) (hT : TabAt 0 Lib.deBruijn64tab w) : Calls Tryd.prog 3 #[v] w fun e w' => e = .returned (.bool true) ∧ Below w.heap.size w w' := by
  by_cases hl : l.length ≤ 30
  · exact tell_few l ho hl v w hv hN hT
  · exact tell_big l (by omega) v w hv hT
end Go.Proofs.YtonicgbejmghkaaDoor
