/- The walk of PartsAgain. -/
import Derived.Test.YtonicgbejmghkaaDoorPtPure3
import Derived.Deep.RegionHeldLaw
namespace Go.Proofs.YtonicgbejmghkaaDoor
open Go.RowKit
theorem SetsR.drew {w : World} {v : Value} {l : List (Nat → Nat)} (h : SetsR w v l) : SetsR w.drew v l := h
attribute [local irreducible] Calls nc cl lb cntS clSet fnV rmV same
set_option maxHeartbeats 4000000 in
set_option maxRecDepth 100000 in
theorem again_big (l : List (Nat → Nat)) (hl : 20 < l.length) (v : Value) (w : World) (hv : SetsR w v l) (hT : TabAt 0 Lib.deBruijn64tab w) : Calls Tryd.prog 7 #[v] w fun e w' => e = .returned (.bool true) ∧ Below w.heap.size w w' := by
  have AW := Lib.hid (fun w1 ht => awake_c w1 ht)
  have HT := Lib.hid hT
  obtain ⟨ao, cap, rfl, _⟩ := hv
  have t1 : decide ((20 : Int) < (l.length : Nat)) = true := by simp; omega
  clear hT
  go_enter Tryd.func7, Tryd.ntmps7
  go_wp2_with fail
  refine (AW.out _ HT.out).mono ?_; rintro e w1 ⟨rfl, k1⟩
  go_wp2_with fail
  refine (AW.out _ (TabAt.below HT.out k1)).mono ?_; rintro e w2 ⟨rfl, k2⟩
  go_wp2_with fail
  go_returns
  exact ⟨rfl, below_step k1 k2⟩
set_option maxHeartbeats 4000000 in
set_option maxRecDepth 100000 in
theorem again_few (l : List (Nat → Nat)) (ho : ∀ S ∈ l, okS S) (hl : l.length ≤ 20) (v : Value) (w : World) (hv : SetsR w v l) (hN : Nil0 v) (hT : TabAt 0 Lib.deBruijn64tab w) : Calls Tryd.prog 7 #[v] w fun e w' => e = .returned (.bool true) ∧ Below w.heap.size w w' := by
  have AW := Lib.hid (fun w1 ht => awake_c w1 ht)
  have HT := Lib.hid hT
  have HN := Lib.hid hN
  have HV := Lib.hid hv
  have HOK := Lib.hid ho
  have t1 : decide ((20 : Int) < (l.length : Nat)) = false := by simp; omega
  have hnc := nc_le l
  have CC := Lib.hid (fun v1 w1 h => cut_c l ho (by omega) v1 w1 h)
  have LC := Lib.hid (fun p w1 h => len_of (p := p) (l := l) w1 h)
  have OC := Lib.hid (fun p (c : Nat) w1 h => of_of (p := p) (l := l) (c : Nat) w1 h)
  have RM := Lib.hid (fun p w1 h => remap_of (p := p) (l := l) w1 h)
  have C1 := Lib.hid (fun v1 w1 h => cut_c (clsL l (nc l)) (clsL_ok ho _) (by rw [clsL_len]; omega) v1 w1 h)
  have R1 := Lib.hid (fun p w1 h => remap_of (p := p) (l := clsL l (nc l)) w1 h)
  rw [show rmV (clsL l (nc l)) = rmV l from rm_congr fun a b ha hb => same_cls ho ha hb] at R1
  have C2 := Lib.hid (fun v1 w1 h => cut_c (([] ++ l) ++ l) (app_ok (by simpa using ho) ho) (by simp; omega) v1 w1 h)
  have R2 := Lib.hid (fun p w1 h => remap_of (p := p) (l := ([] ++ l) ++ l) w1 h)
  rw [show rmV (([] ++ l) ++ l) = rmV l from rm_congr fun a b _ _ => by rw [List.nil_append, same_app, Bool.and_self]] at R2
  have C3 := Lib.hid (fun v1 w1 h => cut_c (l.map notS) nots_ok (by simp; omega) v1 w1 h)
  have R3 := Lib.hid (fun p w1 h => remap_of (p := p) (l := l.map notS) w1 h)
  rw [show rmV (l.map notS) = rmV l from rm_congr fun a b _ _ => same_nots ho a b] at R3
  have EQ := fun w1 => rm_same l w1
  have Z2 := (zero_of_info info_r).1
  rw [zero_bytes] at Z2
  have hrz : (bytesV (List.replicate 256 0)).size = 256 := by rw [bytesV_size, List.length_replicate]
  have e5 := rmV_size l
  have ON : (rmV l).all (·.oneCell') = true := by unfold rmV; exact bytesV_one _
  have ST2 := fun W => run_storeCells_new (P := Tryd.prog) W 29 (bytesV (List.replicate 256 0)) (rmV l) (by rw [(zero_of_info info_r).2, e5]) (by rw [hrz, e5]) ON
  generalize bytesV (List.replicate 256 0) = rz at *
  generalize rmV l = RV at *
  obtain ⟨i0, hti, hz0, hz1, hz2⟩ := info_parts info_setz
  obtain ⟨ao, cap, rfl, _⟩ := hv
  clear hT hN hrz ON ho
  go_enter Tryd.func7, Tryd.ntmps7
  go_wp2_with fail
  refine (AW.out _ HT.out).mono ?_; rintro e w1 ⟨rfl, k1⟩
  have W1 := Lib.hid k1
  have hs1 := k1.size
  have V1 := Lib.hid (HV.out.below (below_alloc W1.out (.cells #[] 35)))
  have W1' := Lib.hid (below_alloc W1.out (.cells #[] 35))
  have ON1 := Lib.hid (own_none w1 w.heap.size k1.size)
  clear k1
  go_wp2_with (at_builtin; refine wpList_copy rfl _ _ rfl w.heap.size [] l _ _ rfl ON1.out rfl V1.out HN.out (by simp; omega) (by rw [World.size_alloc]; omega) ?_)
  intro v2 w2 ho2 hg2
  have S2 := Lib.hid (own_sets ho2)
  have W2 := Lib.hid (Below.grown W1'.out hg2 (by rw [World.size_alloc]; omega) (fun g h => (ON1.out.lt g h).1))
  clear ho2 hg2 ON1 W1' V1 W1
  go_wp2_with fail
  refine (CC.out _ _ S2.out).mono ?_; rintro e w3 ⟨p, rfl, _, hp3, k3⟩
  have W3 := Lib.hid (below_step W2.out k3)
  have P3 := Lib.hid hp3
  clear k3 hp3 S2 W2
  go_wp2_with fail
  refine (LC.out _ _ P3.out).mono ?_; rintro e w4 ⟨rfl, k4⟩
  have W4 := Lib.hid (below_step W3.out k4)
  have P4 := Lib.hid (P3.out.below k4)
  have hs4 := W4.out.size
  clear k4 W3 P3
  go_wp2_with fail
  go_loopw [4, 24] (fun v4 j wx => ∃ c : Nat, c ≤ nc l ∧ j = .int .i64 c ∧ wx.ownsRow w4.heap.size 35 4 v4 (clsL l c).length (setCsL (clsL l c)) ∧ Below w4.heap.size w4 wx) (fun _ j _ => nc l - (intOf j).toNat)
  case atStart => exact ⟨0, by omega, rfl, World.ownsRow_nil _ _ _ _, Below.refl _ _⟩
  case round =>
    obtain ⟨c, hc, rfl, ho, hw⟩ := hrel
    have Nil4 := nil0_own ho
    obtain ⟨ao4, cap4, rfl, _⟩ := own_form ho
    by_cases hlt : c < nc l
    · have t2 : decide (c < nc l) = true := by simp; omega
      have OQ := Lib.hid (fun w1 h => OC.out p c w1 h)
      have HP := Lib.hid (P4.out.below hw)
      have CS := Lib.hid (clsL_succ l c)
      have cll : (clsL l c).length ≤ 256 := by rw [clsL_len]; omega
      have HO := Lib.hid ho
      have HW := Lib.hid hw
      clear ho hw Nil4
      unfold setV at OQ
      generalize clSet l (c : Nat) = S at *
      go_wp2_with fail
      refine (OQ.out _ HP.out).mono ?_; rintro e w6 ⟨rfl, k6⟩
      have HO6 := own_below HO.out k6
      have HW6 := Lib.hid (below_step HW.out k6)
      have hs6 := HW6.out.size
      clear k6 HO HW HP
      go_wp2_with (at_builtin; refine wpList_append_own _ rfl _ _ 22 rfl w4.heap.size 35 i0 _ 4 32 Tryd.underlying22 hti hz0 hz1 hz2 rfl (by decide) _ _ _ rfl (HO6.alloc _) ⟨w6.heap.size, 0, none⟩ 1 1 [.int .u64 (S 0), .int .u64 (S 1), .int .u64 (S 2), .int .u64 (S 3)] rfl rfl (World.news_of_block (cs := #[_, _, _, _]) (t := 35) (fr := (0, 0)) (heap_alloc_new w6 _)) (by simp [Value.oneCell']) (by unfold maxLen; omega) (by omega) (by rw [World.size_alloc]; omega) ?_)
      intro v7 w7 ho7 hg7 _
      have HW7 := Lib.hid (Below.grown (below_alloc HW6.out _) hg7 (by rw [World.size_alloc]; omega) (fun g h => (HO6.lt g h).1))
      have HO7 := Lib.hid ho7
      clear HO6 ho7 hg7 HW6
      go_wp2_with fail
      go_roundw
      case rel => exact ⟨c + 1, by omega, by go_num, by rw [CS.out, setCsL_snoc, List.length_append]; exact HO7.out, HW7.out⟩
      case measure => go_light; simp [intOf]; omega
    · obtain rfl : c = nc l := by omega
      have S4 := Lib.hid (own_sets ho)
      have W5 := Lib.hid (below_step W4.out hw)
      have P5 := Lib.hid (P4.out.below hw)
      have N4 := Lib.hid Nil4
      clear ho hw W4 P4 Nil4
      go_wp2_with fail
      generalize wr = ws at *
      have hss := W5.out.size
      go_loopw [5, 36] (fun v5 j wx => ∃ i : Nat, i ≤ l.length ∧ j = .int .i64 i ∧ wx.ownsRow ws.heap.size 35 4 v5 ((l.take i).map notS).length (setCsL ((l.take i).map notS)) ∧ Below ws.heap.size ws wx) (fun _ j _ => l.length - (intOf j).toNat)
      case atStart => exact ⟨0, by omega, rfl, World.ownsRow_nil _ _ _ _, Below.refl _ _⟩
      case round =>
        obtain ⟨i, hi, rfl, ho, hw⟩ := hrel
        have Nil5 := nil0_own ho
        obtain ⟨ao5, cap5, rfl, _⟩ := own_form ho
        by_cases hlt : i < l.length
        · have t2 : decide (i < l.length) = true := by simp; omega
          have TK := Lib.hid (show (l.take (i + 1)).map notS = (l.take i).map notS ++ [notS l[i]] from by rw [List.take_succ_eq_append_getElem hlt, List.map_append]; rfl)
          obtain ⟨b, off, rfl, hb, c0, c1, c2, c3⟩ := ((HV.out.below W5.out).below hw).at_ hlt
          have NC := Lib.hid (fun w1 => show Calls Tryd.prog 22 #[setV l[i]] w1 fun e w' => e = .returned (setV (notS l[i])) ∧ Below w1.heap.size w1 w' from not_c l[i] (HOK.out _ (List.getElem_mem hlt)) w1)
          have hml : ((l.take i).map notS).length ≤ 20 := by rw [List.length_map, List.length_take]; omega
          generalize l[i] = a at *
          generalize (l.take i).map notS = ns at *
          generalize notS a = T at *
          have HO := Lib.hid (ho.alloc (.cells (setCs a) 35))
          have HW := Lib.hid (below_alloc hw (.cells (setCs a) 35))
          clear ho hw Nil5
          unfold setCs at HO HW
          unfold setV at NC
          go_wp2_with fail
          refine (NC.out _).mono ?_; rintro e w6 ⟨rfl, k6⟩
          have HO6 := own_below HO.out k6
          have HW6 := Lib.hid (below_step HW.out k6)
          have hs6 := HW6.out.size
          clear k6 HO HW NC
          go_wp2_with (at_builtin; refine wpList_append_own _ rfl _ _ 22 rfl ws.heap.size 35 i0 _ 4 32 Tryd.underlying22 hti hz0 hz1 hz2 rfl (by decide) _ _ _ rfl (HO6.alloc _) ⟨w6.heap.size, 0, none⟩ 1 1 [.int .u64 (T 0), .int .u64 (T 1), .int .u64 (T 2), .int .u64 (T 3)] rfl rfl (World.news_of_block (cs := #[_, _, _, _]) (t := 35) (fr := (0, 0)) (heap_alloc_new w6 _)) (by simp [Value.oneCell']) (by unfold maxLen; omega) (by omega) (by rw [World.size_alloc]; omega) ?_)
          intro v7 w7 ho7 hg7 _
          have HW7 := Lib.hid (Below.grown (below_alloc HW6.out _) hg7 (by rw [World.size_alloc]; omega) (fun g h => (HO6.lt g h).1))
          have HO7 := Lib.hid ho7
          clear HO6 ho7 hg7 HW6
          go_wp2_with fail
          go_roundw
          case rel => exact ⟨i + 1, by omega, by go_num, by rw [TK.out, setCsL_snoc, List.length_append]; exact HO7.out, HW7.out⟩
          case measure => go_light; simp [intOf]; omega
        · obtain rfl : i = l.length := by omega
          rw [List.take_length] at *
          have S5 := Lib.hid (own_sets ho)
          have W6 := Lib.hid (below_step W5.out hw)
          have P6 := Lib.hid (P5.out.below hw)
          have S6 := Lib.hid (S4.out.below hw)
          have N5 := Lib.hid Nil5
          clear ho hw W5 P5 Nil5 S4
          go_wp2_with fail
          refine (RM.out _ _ P6.out).mono ?_; rintro e w8 ⟨rfl, k8⟩
          have W8 := Lib.hid (below_alloc (below_step W6.out k8) (.cells RV 29))
          have T4 := Lib.hid ((S6.out.below k8).below (below_alloc (Below.refl _ _) (.cells RV 29)))
          have T5 := Lib.hid ((S5.out.below k8).below (below_alloc (Below.refl _ _) (.cells RV 29)))
          have RB := Lib.hid (Blk.made w8 29 RV)
          clear k8 W6 P6 S6 S5
          go_wp2_with fail
          clear Z2 ST2
          have TV := Lib.hid (HV.out.below W8.out)
          have T5 := Lib.hid (show SetsR _ (.slice ao5 l.length cap5) (l.map notS) from by have h := T5.out; rw [List.length_map] at h; exact h)
          have hg9 := RB.out.lt
          have hs8 := W8.out.size
          generalize w8.heap.size = g9 at *
          generalize w8.alloc _ = wr at *
          have hi9 := Lib.hid (show (Tryd.prog.info? 29).map (·.size) = some RV.toList.length from by rw [(zero_of_info info_r).2, Array.length_toList, e5])
          have EQ2 : ∀ w1, (Op.equalIn 10000 29 (.agg RV) (.agg RV.toList.toArray)).run Tryd.prog w1 = .ok true w1 := fun w1 => by rw [Array.toArray_toList]; exact EQ w1
          have R0 := Blk.range (Blk.drew RB.out)
          refine wp_region_held_drew (S := fun w' => w'.rangeAt g9 0 RV.toList) (by kernel_rfl) R0 (fun hHeld => ?_)
          refine' wpAnyH_take (i := 3) (v := _) rfl (by kernel_rfl) (by kernel_rfl) (by kernel_rfl) (fun _ _ _ h => h) (yieldsIf_load_mid (by rfl) 29 _ rfl g9 0 rfl RV.toList _ (fun _ h1 => h1) Tryd.underlying29 rfl hi9.out) (by assumption) ?r3
          try simp only [Act.put]
          refine' wpAnyH_take (i := 0) (v := _) rfl (by kernel_rfl) (by kernel_rfl) (by kernel_rfl) (fun _ _ _ h => h) (Or.inl ⟨by rfl, ?hy0⟩) (by assumption) ?r0
          case hy0 => (intro w hSw; (try dsimp only at hSw); go_simp; with_reducible rfl)
          try simp only [Act.put]
          refine wpAnyH_ready (rs := [1]) (by kernel_rfl) (by simp) (AllReadyH.cons rfl (fun K' hK => ?_) AllReadyH.nil)
          go_simp
          go_wp2_with (go_at_call 9; refine (C1.out _ _ (SetsR.drew T4.out)).mono ?_; rintro e x1 ⟨p1, rfl, _, hp1, k1⟩; have E1 := (Blk.drew RB.out).below k1; have D1 := below_undrew k1)
          refine hK.out _ _ E1.range (fun hHeld => ?_)
          clear hK K'
          refine wpAnyH_ready (rs := [2]) (by kernel_rfl) (by simp) (AllReadyH.cons rfl (fun K' hK => ?_) AllReadyH.nil)
          go_simp
          go_wp2_with (go_at_call 11; refine (R1.out _ _ hp1).mono ?_; rintro e x2 ⟨rfl, k2⟩; have E2 := E1.below k2; have D2 := below_step D1 k2)
          refine hK.out _ _ E2.range (fun hHeld => ?_)
          clear hK K'
          refine wpAnyH_ready (rs := [4]) (by kernel_rfl) (by simp) (AllReadyH.cons rfl (fun K' hK => ?_) AllReadyH.nil)
          go_simp
          refine hK.out _ _ hHeld (fun hHeld => ?_)
          clear hK K'
          refine' wpAnyH_take (i := 5) (v := _) rfl (by kernel_rfl) (by kernel_rfl) (by kernel_rfl) (fun _ _ _ h => h) (Or.inl ⟨by rfl, ?hy5⟩) (by assumption) ?r5
          case hy5 => (intro w hSw; (try dsimp only at hSw); go_simp; with_reducible rfl)
          try simp only [Act.put]
          refine' wpAnyH_take (i := 7) (v := _) rfl (by kernel_rfl) (by kernel_rfl) (by kernel_rfl) (fun _ _ _ h => h) (Or.inl ⟨by rfl, ?hy7⟩) (by assumption) ?r7
          case hy7 => (intro w hSw; (try dsimp only at hSw); go_simp; with_reducible rfl)
          try simp only [Act.put]
          refine' wpAnyH_take (i := 9) (v := _) rfl (by kernel_rfl) (by kernel_rfl) (by kernel_rfl) (fun _ _ _ h => h) (Or.inl ⟨by rfl, ?hy9⟩) (by assumption) ?r9
          case hy9 => (intro w hSw; (try dsimp only at hSw); go_simp; with_reducible rfl)
          try simp only [Act.put]
          refine' wpAnyH_take (i := 13) (v := _) rfl (by kernel_rfl) (by kernel_rfl) (by kernel_rfl) (fun _ _ _ h => h) (yieldsIf_load_mid (by rfl) 29 _ rfl g9 0 rfl RV.toList _ (fun _ h1 => h1) Tryd.underlying29 rfl hi9.out) (by assumption) ?r13
          try simp only [Act.put]
          refine wpAnyH_ready (rs := [6]) (by kernel_rfl) (by simp) (AllReadyH.cons rfl (fun K' hK => ?_) AllReadyH.nil)
          go_simp
          refine hK.out _ _ (E2.alloc _).range (fun hHeld => ?_)
          clear hK K'
          have hd2 := D2.size
          have OW := own_none x2 wr.heap.size D2.size
          refine wpAnyH_ready (rs := [8]) (by kernel_rfl) (by simp) (AllReadyH.cons rfl (fun K' hK => ?_) AllReadyH.nil)
          rw [if_pos (by rfl)]
          refine wp_copy _ _ rfl wr.heap.size [] l _ _ rfl OW rfl ((TV.out.below D2).below (below_alloc (Below.refl _ _) _)) HN.out (by simp; omega) (by rw [World.size_alloc]; omega) ?_
          intro v9 y1 ho1 hgr1
          have D3 := Below.grown (below_alloc D2 _) hgr1 (by rw [World.size_alloc]; omega) (fun g h => (OW.lt g h).1)
          have E3 := Blk.grown (E2.alloc _) hgr1 (fun e => by have h8 := (OW.lt _ e.symm).1; omega)
          have hd3 := D3.size
          refine hK.out _ _ E3.range (fun hHeld => ?_)
          clear hK K'
          refine wpAnyH_ready (rs := [10]) (by kernel_rfl) (by simp) (AllReadyH.cons rfl (fun K' hK => ?_) AllReadyH.nil)
          rw [if_pos (by rfl)]
          refine wp_copy _ _ rfl wr.heap.size ([] ++ l) l _ _ rfl ho1 rfl (TV.out.below D3) HN.out (by simp; omega) (by omega) ?_
          intro v10 y2 ho2 hgr2
          have D4 := Below.grown D3 hgr2 (by omega) (fun g h => (ho1.lt g h).1)
          have E4 := Blk.grown E3 hgr2 (fun e => by have h8 := (ho1.lt _ e.symm).1; omega)
          refine hK.out _ _ E4.range (fun hHeld => ?_)
          clear hK K'
          refine wpAnyH_ready (rs := [11]) (by kernel_rfl) (by simp) (AllReadyH.cons rfl (fun K' hK => ?_) AllReadyH.nil)
          go_simp
          go_wp2_with (go_at_call 9; refine (C2.out _ _ (own_sets ho2)).mono ?_; rintro e x3 ⟨p3, rfl, _, hp3, k3⟩; have E5 := E4.below k3; have D5 := below_step D4 k3)
          refine hK.out _ _ E5.range (fun hHeld => ?_)
          clear hK K'
          refine wpAnyH_ready (rs := [12]) (by kernel_rfl) (by simp) (AllReadyH.cons rfl (fun K' hK => ?_) AllReadyH.nil)
          go_simp
          go_wp2_with (go_at_call 11; refine (R2.out _ _ hp3).mono ?_; rintro e x4 ⟨rfl, k4⟩; have E6 := E5.below k4; have D6 := below_step D5 k4)
          refine hK.out _ _ E6.range (fun hHeld => ?_)
          clear hK K'
          refine wpAnyH_ready (rs := [14]) (by kernel_rfl) (by simp) (AllReadyH.cons rfl (fun K' hK => ?_) AllReadyH.nil)
          go_simp
          refine hK.out _ _ hHeld (fun hHeld => ?_)
          clear hK K'
          refine' wpAnyH_take (i := 15) (v := _) rfl (by kernel_rfl) (by kernel_rfl) (by kernel_rfl) (fun _ _ _ h => h) (Or.inl ⟨by rfl, ?hy15⟩) (by assumption) ?r15
          case hy15 => (intro w hSw; (try dsimp only at hSw); go_simp; with_reducible rfl)
          try simp only [Act.put]
          refine' wpAnyH_take (i := 16) (v := _) rfl (by kernel_rfl) (by kernel_rfl) (by kernel_rfl) (fun _ _ _ h => h) (Or.inl ⟨by rfl, ?hy16⟩) (by assumption) ?r16
          case hy16 => (intro w hSw; (try dsimp only at hSw); go_simp; with_reducible rfl)
          try simp only [Act.put]
          refine' wpAnyH_take (i := 17) (v := _) rfl (by kernel_rfl) (by kernel_rfl) (by kernel_rfl) (fun _ _ _ h => h) (Or.inl ⟨by rfl, ?hy17⟩) (by assumption) ?r17
          case hy17 => (intro w hSw; (try dsimp only at hSw); go_simp; with_reducible rfl)
          try simp only [Act.put]
          refine' wpAnyH_take (i := 20) (v := _) rfl (by kernel_rfl) (by kernel_rfl) (by kernel_rfl) (fun _ _ _ h => h) (yieldsIf_load_mid (by rfl) 29 _ rfl g9 0 rfl RV.toList _ (fun _ h1 => h1) Tryd.underlying29 rfl hi9.out) (by assumption) ?r20
          try simp only [Act.put]
          refine wpAnyH_ready (rs := [18]) (by kernel_rfl) (by simp) (AllReadyH.cons rfl (fun K' hK => ?_) AllReadyH.nil)
          go_simp
          go_wp2_with (go_at_call 9; refine (C3.out _ _ (T5.out.below D6)).mono ?_; rintro e x5 ⟨p5, rfl, _, hp5, k5⟩; have E7 := E6.below k5; have D7 := below_step D6 k5)
          refine hK.out _ _ E7.range (fun hHeld => ?_)
          clear hK K'
          refine wpAnyH_ready (rs := [19]) (by kernel_rfl) (by simp) (AllReadyH.cons rfl (fun K' hK => ?_) AllReadyH.nil)
          go_simp
          go_wp2_with (go_at_call 11; refine (R3.out _ _ hp5).mono ?_; rintro e x6 ⟨rfl, k6⟩; have E8 := E7.below k6; have D8 := below_step D7 k6)
          refine hK.out _ _ E8.range (fun hHeld => ?_)
          clear hK K'
          refine wpAnyH_ready (rs := [21]) (by kernel_rfl) (by simp) (AllReadyH.cons rfl (fun K' hK => ?_) AllReadyH.nil)
          go_simp
          refine hK.out _ _ hHeld (fun hHeld => ?_)
          clear hK K'
          refine' wpAnyH_take (i := 22) (v := _) rfl (by kernel_rfl) (by kernel_rfl) (by kernel_rfl) (fun _ _ _ h => h) (Or.inl ⟨by rfl, ?hy22⟩) (by assumption) ?r22
          case hy22 => (intro w hSw; (try dsimp only at hSw); go_simp; with_reducible rfl)
          try simp only [Act.put]
          refine wpAnyH_ready (rs := [23]) (by kernel_rfl) (by simp) (AllReadyH.cons rfl (fun K' hK => ?_) AllReadyH.nil)
          go_simp
          refine hK.out _ _ hHeld (fun hHeld => ?_)
          clear hK K'
          refine wpAnyH_done (by kernel_rfl) ?_ _
          have DW := Lib.hid (below_step W8.out D8)
          clear D1 D2 D3 D4 D5 D6 D7 D8 E1 E2 E3 E4 E5 E6 E7 E8 k1 k2 k3 k4 k5 k6 hHeld
          go_wp2_with fail
          go_returns
          exact ⟨rfl, DW.out⟩
theorem again_c (l : List (Nat → Nat)) (ho : ∀ S ∈ l, okS S) (v : Value) (w : World) (hv : SetsR w v l) (hN : Nil0 v) (hT : TabAt 0 Lib.deBruijn64tab w) : Calls Tryd.prog 7 #[v] w fun e w' => e = .returned (.bool true) ∧ Below w.heap.size w w' := by
  by_cases hl : l.length ≤ 20
  · exact again_few l ho hl v w hv hN hT
  · exact again_big l (by omega) v w hv hT
end Go.Proofs.YtonicgbejmghkaaDoor
