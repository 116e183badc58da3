/- The walk of LiveTells. -/
import Derived.Test.YtafcnehinanecaaLvAwake
namespace Go.Proofs.Ytafcnehinanecaa
open Go.RowKit
attribute [local irreducible] Calls
set_option maxHeartbeats 16000000 in
set_option maxRecDepth 100000 in
theorem liveTells_c (tv : Array Value) (T : Tb) (hbig : T.next.length ≤ 9223372036854775807) (w : World) (h : TbR w tv T) : Calls Try.prog 3 #[.agg tv] w fun e w' => e = .returned (.bool true) ∧ Below w.heap.size w w' := by
  have Z := (zero_of_info z0_info).1
  have ZB := z0_build
  have hzz := z0_size
  have hne : ¬ Z0v = #[] := fun e => by have := z0_size; rw [e] at this; exact nomatch this
  have K0 := below_alloc (Below.refl w.heap.size w) (.cells tv 26)
  have W0 := Lib.hid K0
  have HT := Lib.hid h.boxed
  have HR := Lib.hid (h.below K0)
  have B1 := Lib.hid (Blk.made w 26 tv)
  have SL := Lib.hid (tab_len tv h.size)
  have AWC := Lib.hid awake_c
  have FC := Lib.hid (fun w1 (h1 : TbR w1 tv T) => few_c tv T hbig w1 h1)
  clear h K0
  go_enter Try.func3, Try.ntmps3
  go_upto_region 1 with fail
  generalize w.alloc (.cells tv 26) = wa at *
  generalize hg : w.heap.size = b1 at *
  go_cut [17] from 5 to 17 (fun v wx => v = .bool (!fewB T || decide (60 < T.next.length)) ∧ Below wa.heap.size wa wx)
  case first =>
    go_wp2_with fail
    refine (AWC.out _).mono ?_
    rintro e w1 ⟨rfl, k1⟩
    have K1 := Lib.hid k1
    have RG := Lib.hid (Blk.range (B1.out.below k1))
    clear k1
    go_wp2_with (refine wpL_tabW (by rfl) b1 rfl tv RG.out SL.out ?_)
    refine (FC.out _ (HR.out.below K1.out)).mono ?_
    rintro e w2 ⟨rfl, k2⟩
    have K2 := Lib.hid (below_step K1.out k2)
    obtain ⟨c0, c1, cr, an, cn, at_, ct, c3, c4, hra, hta⟩ := (HT.out.below K2.out).cells
    clear k2 c0 c1 cr c4 hra hta
    cases hf : fewB T with
    | false =>
      go_wp2_with fail
      go_meet
      exact ⟨by rw [hf]; rfl, K2.out⟩
    | true =>
      by_cases h60 : 60 < T.next.length
      · have t1 : decide (60 < T.next.length) = true := by simpa
        have t2 : decide ((60 : Int) < (T.next.length : Int)) = true := by simp; omega
        go_wp2_with fail
        go_meet
        exact ⟨by rw [hf, t1]; rfl, K2.out⟩
      · have t1 : decide (60 < T.next.length) = false := by simpa using h60
        have t2 : decide ((60 : Int) < (T.next.length : Int)) = false := by simp; omega
        go_wp2_with fail
        go_meet
        exact ⟨by rw [hf, t1]; rfl, K2.out⟩
  case rest =>
    obtain ⟨rfl, hw⟩ := hcut
    rename World => wb
    have KB := Lib.hid hw
    clear hw FC
    cases hc : (!fewB T || decide (60 < T.next.length)) with
    | true =>
      go_wp2_with fail
      refine (AWC.out _).mono ?_
      rintro e w1 ⟨rfl, k1⟩
      have K1 := Lib.hid (below_step KB.out k1)
      clear k1
      go_wp2_with fail
      go_returns
      exact ⟨rfl, by rw [hg]; exact W0.out.trans (K1.out.mono (by rw [← hg]; exact W0.out.size))⟩
    | false =>
      clear hc AWC
      have RG := Lib.hid (Blk.range (B1.out.below KB.out))
      by_cases p : RightP T
      · have RR := Lib.hid (show ∀ w1, TbR w1 tv T → Calls Try.prog 10 #[.agg tv] w1 fun e w' => e = .returned (.bool true) ∧ Below w1.heap.size w1 w' from fun w1 h1 => by have := rright_c tv T w1 h1; rwa [rightB_yes p] at this)
        have TP := Lib.hid (trim_right p)
        have PP := Lib.hid p
        have hn3 : T.next.length ≤ 300 := p.n3
        have hol : (order T allM).length ≤ 300 := by have := order_len p allM; omega
        have hul : (usefulL T).length ≤ 300 := by
          unfold usefulL
          rw [List.length_map]
          have := List.length_filter_le (liveB T) (List.range T.next.length)
          rw [List.length_range] at this; omega
        clear p
        go_wp2_with (refine wpL_tab b1 rfl tv RG.out SL.out ?_)
        refine (ltrim_c tv T PP.out _ (HR.out.below KB.out)).mono ?_
        rintro e w4 ⟨uv, rfl, hu, k4⟩
        have zu := hu.size
        obtain ⟨ST, hblk, k5⟩ := box_store hu
        have K5 := Lib.hid (below_step (below_step KB.out k4) k5)
        have HU := Lib.hid (hu.below k5)
        have BU := Lib.hid hblk
        have SLu := Lib.hid (tab_len uv zu)
        have RG := Lib.hid (Blk.range (B1.out.below K5.out))
        clear hu k4 hblk k5
        go_upto_region 4 with fail
        clear ST
        generalize hgu : w4.heap.size = bu at *
        clear hgu
        generalize (w4.alloc (.cells Z0v 26)).setRow bu uv = w5 at *
        go_wp2_with (refine wpL_tab b1 rfl tv RG.out SL.out ?_)
        refine (RR.out _ (HR.out.below K5.out)).mono ?_
        rintro e w6 ⟨rfl, k6⟩
        have K6 := Lib.hid (below_step K5.out k6)
        have HU6 := Lib.hid (HU.out.below k6)
        have BU6 := Lib.hid (BU.out.below k6)
        clear k6 HU BU RG RR
        go_upto_region 6 with fail
        have HR6 := Lib.hid (HR.out.below K6.out)
        have HS := Lib.hid (show ∀ w', Below w6.heap.size w6 w' → w'.rangeAt b1 0 tv.toList ∧ w'.rangeAt bu 0 uv.toList ∧ Below w6.heap.size w6 w' from fun w' k => ⟨Blk.range ((B1.out.below K6.out).below k), Blk.range (BU6.out.below k), k⟩)
        have DW := Lib.hid (show Below w6.heap.size w6 w6.drew from below_dr (Below.refl _ _))
        refine wp_region_held_drew (S := fun w' => w'.rangeAt b1 0 tv.toList ∧ w'.rangeAt bu 0 uv.toList ∧ Below w6.heap.size w6 w') (by kernel_rfl) (HS.out _ DW.out) (fun hHeld => ?_)
        refine' wpAnyH_take (i := 0) (v := _) rfl (by kernel_rfl) (by kernel_rfl) (by kernel_rfl) (fun _ _ _ h => h) (Or.inl ⟨by kernel_rfl, ?hy0⟩) (by assumption) ?r0
        case hy0 => (intro w hSw; (try dsimp only at hSw); go_simp; with_reducible rfl)
        try simp only [Act.put]
        refine' wpAnyH_take (i := 1) (v := _) rfl (by kernel_rfl) (by kernel_rfl) (by kernel_rfl) (fun _ _ _ h => h) (Or.inl ⟨by kernel_rfl, ?hy1⟩) (by assumption) ?r1
        case hy1 => (intro w hSw; (try dsimp only at hSw); go_simp; with_reducible rfl)
        try simp only [Act.put]
        refine' wpAnyH_take (i := 2) (v := _) rfl (by kernel_rfl) (by kernel_rfl) (by kernel_rfl) (fun _ _ _ h => h) (Or.inl ⟨by kernel_rfl, ?hy2⟩) (by assumption) ?r2
        case hy2 => (intro w hSw; (try dsimp only at hSw); go_simp; with_reducible rfl)
        try simp only [Act.put]
        refine' wpAnyH_take (i := 3) (v := _) rfl (by kernel_rfl) (by kernel_rfl) (by kernel_rfl) (fun _ _ _ h => h) (yields_tab (by kernel_rfl) _ rfl bu ?hx3 uv (fun _ h1 => h1.2.1) SLu.out) (by assumption) ?r3
        case hx3 => (go_simp; try with_reducible rfl)
        try simp only [Act.put]
        refine' wpAnyH_take (i := 4) (v := _) rfl (by kernel_rfl) (by kernel_rfl) (by kernel_rfl) (fun _ _ _ h => h) (yields_tab (by kernel_rfl) _ rfl b1 ?hx4 tv (fun _ h1 => h1.1) SL.out) (by assumption) ?r4
        case hx4 => (go_simp; try with_reducible rfl)
        try simp only [Act.put]
        refine wpAnyH_ready (rs := [5]) (by kernel_rfl) (by simp) (AllReadyH.cons rfl (fun K' hK => ?_) AllReadyH.nil)
        go_simp
        go_wp2_with fail
        refine (rtrim_c tv T PP.out _ (HR6.out.below DW.out)).mono ?_
        rintro e x1 ⟨rv, rfl, hr, kk⟩
        have HRV := Lib.hid hr
        have Wx1 := Lib.hid (below_step DW.out kk)
        clear hr kk
        refine hK.out _ _ (HS.out _ Wx1.out) (fun hHeld => ?_)
        clear hK K'
        refine wpAnyH_ready (rs := [6]) (by kernel_rfl) (by simp) (AllReadyH.cons rfl (fun K' hK => ?_) AllReadyH.nil)
        go_simp
        go_wp2_with fail
        refine (same17_c uv rv (trimT T) (by have := TP.out.n3; omega) (by have := TP.out.n3; have := TP.out.nt; omega) (fun r hr => by obtain ⟨i, hi, rfl⟩ := List.getElem_of_mem hr; have := TP.out.rows i hi; have := TP.out.c2; omega) _ (HU6.out.below Wx1.out) HRV.out).mono ?_
        rintro e x2 ⟨rfl, kk⟩
        have Wx2 := Lib.hid (below_step Wx1.out kk)
        clear kk
        refine hK.out _ _ (HS.out _ Wx2.out) (fun hHeld => ?_)
        clear hK K'
        refine' wpAnyH_take (i := 7) (v := _) rfl (by kernel_rfl) (by kernel_rfl) (by kernel_rfl) (fun _ _ _ h => h) (Or.inl ⟨by kernel_rfl, ?hy7⟩) (by assumption) ?r7
        case hy7 => (intro w hSw; (try dsimp only at hSw); go_simp; with_reducible rfl)
        try simp only [Act.put]
        refine' wpAnyH_take (i := 8) (v := _) rfl (by kernel_rfl) (by kernel_rfl) (by kernel_rfl) (fun _ _ _ h => h) (Or.inl ⟨by kernel_rfl, ?hy8⟩) (by assumption) ?r8
        case hy8 => (intro w hSw; (try dsimp only at hSw); go_simp; with_reducible rfl)
        try simp only [Act.put]
        refine' wpAnyH_take (i := 9) (v := _) rfl (by kernel_rfl) (by kernel_rfl) (by kernel_rfl) (fun _ _ _ h => h) (yields_tab (by kernel_rfl) _ rfl b1 ?hx9 tv (fun _ h1 => h1.1) SL.out) (by assumption) ?r9
        case hx9 => (go_simp; try with_reducible rfl)
        try simp only [Act.put]
        refine' wpAnyH_take (i := 11) (v := _) rfl (by kernel_rfl) (by kernel_rfl) (by kernel_rfl) (fun _ _ _ h => h) (yields_tab (by kernel_rfl) _ rfl b1 ?hx11 tv (fun _ h1 => h1.1) SL.out) (by assumption) ?r11
        case hx11 => (go_simp; try with_reducible rfl)
        try simp only [Act.put]
        refine wpAnyH_ready (rs := [10]) (by kernel_rfl) (by simp) (AllReadyH.cons rfl (fun K' hK => ?_) AllReadyH.nil)
        go_simp
        go_wp2_with fail
        refine (lreached_c tv T PP.out _ (HR6.out.below Wx2.out)).mono ?_
        rintro e x3 ⟨pvx3, rfl, ho, kk⟩
        have HA := Lib.hid ((IntsAt.own ho).mono (Nat.zero_le _))
        have Wx3 := Lib.hid (below_step Wx2.out kk)
        clear ho kk
        refine hK.out _ _ (HS.out _ Wx3.out) (fun hHeld => ?_)
        clear hK K'
        refine wpAnyH_ready (rs := [12]) (by kernel_rfl) (by simp) (AllReadyH.cons rfl (fun K' hK => ?_) AllReadyH.nil)
        go_simp
        go_wp2_with fail
        refine (rreached_c tv T PP.out _ (HR6.out.below Wx3.out)).mono ?_
        rintro e x4 ⟨pvx4, rfl, ho, kk⟩
        have HA := Lib.hid (HA.out.below kk)
        have HB := Lib.hid ((IntsAt.own ho).mono (Nat.zero_le _))
        have Wx4 := Lib.hid (below_step Wx3.out kk)
        clear ho kk
        refine hK.out _ _ (HS.out _ Wx4.out) (fun hHeld => ?_)
        clear hK K'
        refine wpAnyH_ready (rs := [13]) (by kernel_rfl) (by simp) (AllReadyH.cons rfl (fun K' hK => ?_) AllReadyH.nil)
        go_simp
        go_wp2_with fail
        refine (same_refl (sortI (order T allM)) (by rw [sortI_len]; omega) _ _ _ HA.out HB.out).mono ?_
        rintro e x5 ⟨rfl, kk⟩
        have Wx5 := Lib.hid (below_step Wx4.out kk)
        clear kk HA HB
        refine hK.out _ _ (HS.out _ Wx5.out) (fun hHeld => ?_)
        clear hK K'
        refine' wpAnyH_take (i := 14) (v := _) rfl (by kernel_rfl) (by kernel_rfl) (by kernel_rfl) (fun _ _ _ h => h) (Or.inl ⟨by kernel_rfl, ?hy14g⟩) (by assumption) ?r14g
        case hy14g => (intro w hSw; (try dsimp only at hSw); go_simp; with_reducible rfl)
        try simp only [Act.put]
        refine' wpAnyH_take (i := 15) (v := _) rfl (by kernel_rfl) (by kernel_rfl) (by kernel_rfl) (fun _ _ _ h => h) (Or.inl ⟨by kernel_rfl, ?hy15g⟩) (by assumption) ?r15g
        case hy15g => (intro w hSw; (try dsimp only at hSw); go_simp; with_reducible rfl)
        try simp only [Act.put]
        refine' wpAnyH_take (i := 16) (v := _) rfl (by kernel_rfl) (by kernel_rfl) (by kernel_rfl) (fun _ _ _ h => h) (yields_tab (by kernel_rfl) _ rfl b1 ?hx16g tv (fun _ h1 => h1.1) SL.out) (by assumption) ?r16g
        case hx16g => (go_simp; try with_reducible rfl)
        try simp only [Act.put]
        refine' wpAnyH_take (i := 18) (v := _) rfl (by kernel_rfl) (by kernel_rfl) (by kernel_rfl) (fun _ _ _ h => h) (yields_tab (by kernel_rfl) _ rfl b1 ?hx18g tv (fun _ h1 => h1.1) SL.out) (by assumption) ?r18g
        case hx18g => (go_simp; try with_reducible rfl)
        try simp only [Act.put]
        refine wpAnyH_ready (rs := [17]) (by kernel_rfl) (by simp) (AllReadyH.cons rfl (fun K' hK => ?_) AllReadyH.nil)
        go_simp
        go_wp2_with fail
        refine (lusefull_c tv T PP.out _ (HR6.out.below Wx5.out)).mono ?_
        rintro e x6 ⟨pvx6, rfl, ho, kk⟩
        have HA := Lib.hid ((IntsAt.own ho).mono (Nat.zero_le _))
        have Wx6 := Lib.hid (below_step Wx5.out kk)
        clear ho kk
        refine hK.out _ _ (HS.out _ Wx6.out) (fun hHeld => ?_)
        clear hK K'
        refine wpAnyH_ready (rs := [19]) (by kernel_rfl) (by simp) (AllReadyH.cons rfl (fun K' hK => ?_) AllReadyH.nil)
        go_simp
        go_wp2_with fail
        refine (ruseful_c tv T PP.out _ (HR6.out.below Wx6.out)).mono ?_
        rintro e x7 ⟨⟨pvx7, rfl, ho⟩, kk⟩
        have HA := Lib.hid (HA.out.below kk)
        have HB := Lib.hid ((IntsAt.own ho).mono (Nat.zero_le _))
        have Wx7 := Lib.hid (below_step Wx6.out kk)
        clear ho kk
        refine hK.out _ _ (HS.out _ Wx7.out) (fun hHeld => ?_)
        clear hK K'
        refine wpAnyH_ready (rs := [20]) (by kernel_rfl) (by simp) (AllReadyH.cons rfl (fun K' hK => ?_) AllReadyH.nil)
        go_simp
        go_wp2_with fail
        refine (same_refl (usefulL T) (by omega) _ _ _ HA.out HB.out).mono ?_
        rintro e x8 ⟨rfl, kk⟩
        have Wx8 := Lib.hid (below_step Wx7.out kk)
        clear kk HA HB
        refine hK.out _ _ (HS.out _ Wx8.out) (fun hHeld => ?_)
        clear hK K'
        refine' wpAnyH_take (i := 21) (v := _) rfl (by kernel_rfl) (by kernel_rfl) (by kernel_rfl) (fun _ _ _ h => h) (Or.inl ⟨by kernel_rfl, ?hy21g⟩) (by assumption) ?r21g
        case hy21g => (intro w hSw; (try dsimp only at hSw); go_simp; with_reducible rfl)
        try simp only [Act.put]
        refine' wpAnyH_take (i := 22) (v := _) rfl (by kernel_rfl) (by kernel_rfl) (by kernel_rfl) (fun _ _ _ h => h) (Or.inl ⟨by kernel_rfl, ?hy22g⟩) (by assumption) ?r22g
        case hy22g => (intro w hSw; (try dsimp only at hSw); go_simp; with_reducible rfl)
        try simp only [Act.put]
        refine' wpAnyH_take (i := 23) (v := _) rfl (by kernel_rfl) (by kernel_rfl) (by kernel_rfl) (fun _ _ _ h => h) (yields_tab (by kernel_rfl) _ rfl b1 ?hx23g tv (fun _ h1 => h1.1) SL.out) (by assumption) ?r23g
        case hx23g => (go_simp; try with_reducible rfl)
        try simp only [Act.put]
        refine' wpAnyH_take (i := 25) (v := _) rfl (by kernel_rfl) (by kernel_rfl) (by kernel_rfl) (fun _ _ _ h => h) (yields_tab (by kernel_rfl) _ rfl b1 ?hx25g tv (fun _ h1 => h1.1) SL.out) (by assumption) ?r25g
        case hx25g => (go_simp; try with_reducible rfl)
        try simp only [Act.put]
        refine wpAnyH_ready (rs := [24]) (by kernel_rfl) (by simp) (AllReadyH.cons rfl (fun K' hK => ?_) AllReadyH.nil)
        go_simp
        go_wp2_with fail
        refine (lorder_c tv T PP.out _ (HR6.out.below Wx8.out)).mono ?_
        rintro e x9 ⟨pvx9, rfl, ho, kk⟩
        have HA := Lib.hid ((IntsAt.own ho).mono (Nat.zero_le _))
        have Wx9 := Lib.hid (below_step Wx8.out kk)
        clear ho kk
        refine hK.out _ _ (HS.out _ Wx9.out) (fun hHeld => ?_)
        clear hK K'
        refine wpAnyH_ready (rs := [26]) (by kernel_rfl) (by simp) (AllReadyH.cons rfl (fun K' hK => ?_) AllReadyH.nil)
        go_simp
        go_wp2_with fail
        refine (rorder_c tv T PP.out [] (.slice none 0 0) (by simp) false allM (fun k => rfl) _ (HR6.out.below Wx9.out) (IntsAt.zero _ _ _ _ (fun _ => rfl))).mono ?_
        rintro e x10 ⟨⟨pvx10, rfl, ho⟩, kk⟩
        have HA := Lib.hid (HA.out.below kk)
        have HB := Lib.hid ((IntsAt.own ho).mono (Nat.zero_le _))
        have Wx10 := Lib.hid (below_step Wx9.out kk)
        clear ho kk
        refine hK.out _ _ (HS.out _ Wx10.out) (fun hHeld => ?_)
        clear hK K'
        refine wpAnyH_ready (rs := [27]) (by kernel_rfl) (by simp) (AllReadyH.cons rfl (fun K' hK => ?_) AllReadyH.nil)
        go_simp
        go_wp2_with fail
        refine (same_refl (order T allM) (by omega) _ _ _ HA.out HB.out).mono ?_
        rintro e x11 ⟨rfl, kk⟩
        have Wx11 := Lib.hid (below_step Wx10.out kk)
        clear kk HA HB
        refine hK.out _ _ (HS.out _ Wx11.out) (fun hHeld => ?_)
        clear hK K'
        refine' wpAnyH_take (i := 28) (v := _) rfl (by kernel_rfl) (by kernel_rfl) (by kernel_rfl) (fun _ _ _ h => h) (Or.inl ⟨by kernel_rfl, ?hy28g⟩) (by assumption) ?r28g
        case hy28g => (intro w hSw; (try dsimp only at hSw); go_simp; with_reducible rfl)
        try simp only [Act.put]
        refine wpAnyH_ready (rs := [29]) (by kernel_rfl) (by simp) (AllReadyH.cons rfl (fun K' hK => ?_) AllReadyH.nil)
        go_simp
        refine hK.out _ _ (HS.out _ Wx11.out) (fun hHeld => ?_)
        clear hK K' hHeld
        refine wpAnyH_done (by kernel_rfl) ?_ _
        go_wp2_with fail
        go_returns
        exact ⟨rfl, by rw [hg]; exact W0.out.trans ((K6.out.trans (Wx11.out.mono K6.out.size)).mono (by rw [← hg]; exact W0.out.size))⟩
      · have RR := Lib.hid (show ∀ w1, TbR w1 tv T → Calls Try.prog 10 #[.agg tv] w1 fun e w' => e = .returned (.bool false) ∧ Below w1.heap.size w1 w' from fun w1 h1 => by have := rright_c tv T w1 h1; rwa [rightB_no p] at this)
        have PN := Lib.hid p
        clear p
        go_wp2_with (refine wpL_tab b1 rfl tv RG.out SL.out ?_)
        refine (ltrim_no tv T PN.out _ (HR.out.below KB.out)).mono ?_
        rintro e w4 ⟨rfl, k4⟩
        obtain ⟨ST, hblk, k5⟩ := box_store (z0_tab w4)
        have K5 := Lib.hid (below_step (below_step KB.out k4) k5)
        have BU := Lib.hid hblk
        have SLu := Lib.hid (tab_len Z0v z0_size)
        have RG := Lib.hid (Blk.range (B1.out.below K5.out))
        clear k4 hblk k5
        go_upto_region 4 with fail
        clear ST
        generalize hgu : w4.heap.size = bu at *
        clear hgu
        generalize (w4.alloc (.cells Z0v 26)).setRow bu Z0v = w5 at *
        go_wp2_with (refine wpL_tab b1 rfl tv RG.out SL.out ?_)
        refine (RR.out _ (HR.out.below K5.out)).mono ?_
        rintro e w6 ⟨rfl, k6⟩
        have K6 := Lib.hid (below_step K5.out k6)
        have RGu := Lib.hid (Blk.range (BU.out.below k6))
        clear k6 BU RG RR
        go_upto_region 5 with fail
        go_wp2_with (refine wpL_tabW (by rfl) bu rfl Z0v RGu.out SLu.out ?_)
        refine (same17_c Z0v Z0v T0 (by decide) (by decide) (fun r hr => nomatch hr) _ (z0_tab _) (z0_tab _)).mono ?_
        rintro e w7 ⟨rfl, k7⟩
        have K7 := Lib.hid (below_step K6.out k7)
        have RG := Lib.hid (Blk.range (B1.out.below K7.out))
        clear k7 RGu
        go_wp2_with (refine wpL_tabW (by rfl) b1 rfl tv RG.out SL.out ?_)
        refine (lreached_no tv T PN.out _ (HR.out.below K7.out)).mono ?_
        rintro e w8 ⟨v8, rfl, ho, k8⟩
        obtain ⟨a8, c8, rfl, _⟩ := own_form ho
        have K8 := Lib.hid (below_step K7.out k8)
        have RG := Lib.hid (Blk.range (B1.out.below K8.out))
        clear k8 ho
        go_wp2_with (refine wpL_tabW (by rfl) b1 rfl tv RG.out SL.out ?_)
        refine (luseful_no tv T PN.out _ (HR.out.below K8.out)).mono ?_
        rintro e w9 ⟨v9, rfl, ho, k9⟩
        obtain ⟨a9, c9, rfl, _⟩ := own_form ho
        have K9 := Lib.hid (below_step K8.out k9)
        have RG := Lib.hid (Blk.range (B1.out.below K9.out))
        clear k9 ho
        go_wp2_with (refine wpL_tabW (by rfl) b1 rfl tv RG.out SL.out ?_)
        refine (lorder_no tv T PN.out _ (HR.out.below K9.out)).mono ?_
        rintro e w10 ⟨v10, rfl, ho, k10⟩
        obtain ⟨a10, c10, rfl, _⟩ := own_form ho
        have K10 := Lib.hid (below_step K9.out k10)
        clear k10 ho
        go_wp2_with fail
        go_returns
        exact ⟨rfl, by rw [hg]; exact W0.out.trans (K10.out.mono (by rw [← hg]; exact W0.out.size))⟩
end Go.Proofs.Ytafcnehinanecaa
