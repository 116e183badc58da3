/- The walk of LiveTrims. -/
import Derived.Test.YtafcnehinanecaaLvAwake
namespace Go.Proofs.Ytafcnehinanecaa
open Go.RowKit
theorem bytes_of (s : ByteArray) : ∃ l : List UInt8, s = ⟨l.toArray⟩ := ⟨s.data.toList, by simp⟩
attribute [local irreducible] Calls
set_option maxHeartbeats 16000000 in
set_option maxRecDepth 100000 in
theorem liveTrims_c (tv : Array Value) (T : Tb) (hbig : T.next.length ≤ 9223372036854775807) (s : List UInt8) (hs : s.length ≤ 9223372036854775807) (w : World) (h : TbR w tv T) : Calls Try.prog 4 #[.agg tv, strT s] w fun e w' => e = .returned (.bool true) ∧ Below w.heap.size w w' := by
  have Z := (zero_of_info z0_info).1
  have hzz := z0_size
  have hne : ¬ Z0v = #[] := fun e => by have := z0_size; rw [e] at this; exact nomatch this
  have K0 := below_alloc (Below.refl w.heap.size w) (.cells tv 26)
  have W0 := Lib.hid K0
  have HT := Lib.hid h.boxed
  have HR := Lib.hid (h.below K0)
  have B1 := Lib.hid (Blk.made w 26 tv)
  have SL := Lib.hid (tab_len tv h.size)
  have AWC := Lib.hid awake_c
  have FC := Lib.hid (fun w1 (h1 : TbR w1 tv T) => few_c tv T hbig w1 h1)
  have RC := Lib.hid (fun w1 (h1 : TbR w1 tv T) => rright_c tv T w1 h1)
  have LC := Lib.hid (fun (p : RightP T) (hl : s.length ≤ 1000000) f (hf : f ≤ s.length) w1 (h1 : TbR w1 tv T) => longest_c tv T p s hl f hf w1 h1)
  have LD := Lib.hid (fun uv (p : RightP (trimT T)) (hl : s.length ≤ 1000000) f (hf : f ≤ s.length) w1 (h1 : TbR w1 uv (trimT T)) => longest_c uv (trimT T) p s hl f hf w1 h1)
  have LE := Lib.hid (fun (p : RightP T) f => trim_longest p h.len s f)
  have sl : (ByteArray.mk s.toArray).size = s.length := str_size s
  unfold strT at *
  generalize ByteArray.mk s.toArray = sb at *
  generalize hln : s.length = ln at *
  clear h K0
  go_enter Try.func4, Try.ntmps4
  go_upto_region 1 with fail
  generalize w.alloc (.cells tv 26) = wa at *
  generalize hg : w.heap.size = b1 at *
  go_cut [36] from 14 to 36 (fun v wx => v = .bool (!fewB T || (decide (60 < T.next.length) || (!rightB T || decide (30 < ln)))) ∧ Below wa.heap.size wa wx)
  case first =>
    go_wp2_with fail
    refine (AWC.out _).mono ?_
    rintro e w1 ⟨rfl, k1⟩
    have K1 := Lib.hid k1
    have RG := Lib.hid (Blk.range (B1.out.below k1))
    clear k1
    go_wp2_with (refine wpL_tabW (by rfl) b1 rfl tv RG.out SL.out ?_)
    refine (FC.out _ (HR.out.below K1.out)).mono ?_
    rintro e w2 ⟨rfl, k2⟩
    have K2 := Lib.hid (below_step K1.out k2)
    obtain ⟨c0, c1, cr, an, cn, at_, ct, c3, c4, hra, hta⟩ := (HT.out.below K2.out).cells
    have RG := Lib.hid (Blk.range (B1.out.below K2.out))
    clear k2 c0 c1 cr c4 hra hta
    cases hf : fewB T with
    | false =>
      go_wp2_with fail
      go_meet
      exact ⟨by rw [hf]; rfl, K2.out⟩
    | true =>
      by_cases h60 : 60 < T.next.length
      · have t1 : decide (60 < T.next.length) = true := by simpa
        have t2 : decide ((60 : Int) < (T.next.length : Int)) = true := by simp; omega
        go_wp2_with fail
        go_meet
        exact ⟨by rw [hf, t1]; rfl, K2.out⟩
      · have t1 : decide (60 < T.next.length) = false := by simpa using h60
        have t2 : decide ((60 : Int) < (T.next.length : Int)) = false := by simp; omega
        go_wp2_with (refine wpL_tabW (by rfl) b1 rfl tv RG.out SL.out ?_)
        refine (RC.out _ (HR.out.below K2.out)).mono ?_
        rintro e w3 ⟨rfl, k3⟩
        have K3 := Lib.hid (below_step K2.out k3)
        clear k3
        cases hr : rightB T with
        | false =>
          go_wp2_with fail
          go_meet
          exact ⟨by rw [hf, t1, hr]; rfl, K3.out⟩
        | true =>
          have t3 : decide ((30 : Int) < (ln : Int)) = decide (30 < ln) := by rw [Bool.eq_iff_iff]; simp; omega
          generalize hb : decide (30 < ln) = bl at *
          go_wp2_with fail
          go_meet
          exact ⟨by rw [hf, t1, hr]; rfl, K3.out⟩
  case rest =>
    obtain ⟨rfl, hw⟩ := hcut
    rename World => wb
    have KB := Lib.hid hw
    clear hw FC RC
    cases hc : (!fewB T || (decide (60 < T.next.length) || (!rightB T || decide (30 < ln)))) with
    | true =>
      go_wp2_with fail
      refine (AWC.out _).mono ?_
      rintro e w1 ⟨rfl, k1⟩
      have K1 := Lib.hid (below_step KB.out k1)
      clear k1
      go_wp2_with fail
      go_returns
      exact ⟨rfl, by rw [hg]; exact W0.out.trans (K1.out.mono (by rw [← hg]; exact W0.out.size))⟩
    | false =>
      have p : RightP T := by
        cases hr : rightB T with
        | true => exact (rightB_iff T).1 hr
        | false => rw [hr] at hc; simp at hc
      have hl30 : ln ≤ 30 := by simp at hc; omega
      clear hc AWC
      have TR := Lib.hid (trim_right p)
      have TAg := Lib.hid (trim_again p)
      have PP := Lib.hid p
      have TOR := Lib.hid (show (order (trimT T) allM).length = (trimT T).next.length from by rw [trim_order p (may' := allM) fun _ _ _ => rfl, upI_len])
      have TUL := Lib.hid (show (usefulL (trimT T)).length = (trimT T).next.length from by rw [trim_useful p, upI_len])
      have htl : (trimT T).next.length ≤ 300 := (trim_right p).n3
      have RG := Lib.hid (Blk.range (B1.out.below KB.out))
      have LC1 := Lib.hid (LC.out p (by omega))
      have LD1 := Lib.hid (fun uv => LD.out uv (trim_right p) (by omega))
      have LE1 := Lib.hid (LE.out p)
      clear p LC LD LE
      go_wp2_with (refine wpL_tab b1 rfl tv RG.out SL.out ?_)
      refine (ltrim_c tv T PP.out _ (HR.out.below KB.out)).mono ?_
      rintro e w4 ⟨uv, rfl, hu, k4⟩
      have zu := hu.size
      obtain ⟨ST, hblk, k5⟩ := box_store hu
      have K5 := Lib.hid (below_step (below_step KB.out k4) k5)
      have HU := Lib.hid (hu.below k5)
      have BU := Lib.hid hblk
      have SLu := Lib.hid (tab_len uv zu)
      have RG := Lib.hid (Blk.range hblk)
      clear hu k4 hblk k5
      go_upto_region 4 with fail
      clear ST
      generalize hgu : w4.heap.size = bu at *
      clear hgu
      generalize (w4.alloc (.cells Z0v 26)).setRow bu uv = w5 at *
      go_wp2_with (refine wpL_tab bu rfl uv RG.out SLu.out ?_)
      refine (ltrim_c uv _ TR.out _ HU.out).mono ?_
      rintro e w6 ⟨vv, rfl, hv, k6⟩
      rw [TAg.out] at hv
      have zv := hv.size
      obtain ⟨ST, hblk, k7⟩ := box_store hv
      have K7 := Lib.hid (below_step (below_step K5.out k6) k7)
      have HU7 := Lib.hid (HU.out.below (below_step k6 k7))
      have BU7 := Lib.hid (BU.out.below (below_step k6 k7))
      have HV := Lib.hid (hv.below k7)
      have BV := Lib.hid hblk
      have SLv := Lib.hid (tab_len vv zv)
      have RG := Lib.hid (Blk.range BU7.out)
      clear hv k6 hblk k7 HU BU
      go_upto_region 5 with fail
      clear ST
      generalize hgv : w6.heap.size = bv at *
      clear hgv
      generalize (w6.alloc (.cells Z0v 26)).setRow bv vv = w7 at *
      go_wp2_with (refine wpL_tabW (by rfl) bu rfl uv RG.out SLu.out ?_)
      have RRC := rright_c uv (trimT T) w7 HU7.out
      rw [rightB_yes TR.out] at RRC
      refine RRC.mono ?_
      clear RRC
      rintro e w8 ⟨rfl, k8⟩
      have K8 := Lib.hid (below_step K7.out k8)
      have HU8 := Lib.hid (HU7.out.below k8)
      have BU8 := Lib.hid (BU7.out.below k8)
      have HV8 := Lib.hid (HV.out.below k8)
      have RGu := Lib.hid (Blk.range BU8.out)
      have RGv := Lib.hid (Blk.range (BV.out.below k8))
      clear k8 HU7 BU7 HV BV RG
      go_wp2_with (first | (refine wpL_tabW (by rfl) bu (by rfl) uv RGu.out SLu.out ?_) | (refine wpL_tabW (by rfl) bv (by rfl) vv RGv.out SLv.out ?_))
      refine (same17_c uv vv (trimT T) (by omega) (by have := TR.out.nt; omega) (fun r hr => by obtain ⟨i, hi, rfl⟩ := List.getElem_of_mem hr; have := TR.out.rows i hi; have := TR.out.c2; omega) _ HU8.out HV8.out).mono ?_
      rintro e w9 ⟨rfl, k9⟩
      have K9 := Lib.hid (below_step K8.out k9)
      have HU9 := Lib.hid (HU8.out.below k9)
      have BU9 := Lib.hid (BU8.out.below k9)
      clear k9 HU8 BU8 HV8 RGu RGv
      have B0 := Lib.hid (Below.refl w9.heap.size w9)
      go_wp2_with fail
      go_loopw [9, 10, 11, 12, 13, 68] (fun _ _ _ _ _ i wx => ∃ k : Nat, k ≤ ln + 1 ∧ i = .int .i64 k ∧ Below w9.heap.size w9 wx) (fun _ _ _ _ _ i _ => ln + 1 - (intOf i).toNat)
      case atStart => exact ⟨0, by omega, rfl, B0.out⟩
      case round =>
        clear B0
        obtain ⟨k, hk, rfl, hw⟩ := hrel
        have KX := Lib.hid (K9.out.trans (hw.mono K9.out.size))
        have KY := Lib.hid hw
        have HUX := Lib.hid (HU9.out.below hw)
        have BUX := Lib.hid (BU9.out.below hw)
        clear hw
        by_cases hlt : k < ln + 1
        · have t1 : decide (k < ln + 1) = true := by simpa
          have t2 : decide ((k : Int) < (ln : Int) + 1) = true := by simp; omega
          have RG := Lib.hid (Blk.range (B1.out.below KX.out))
          go_upto_region 10 with fail
          go_wp2_with (refine wpL_tab b1 rfl tv RG.out SL.out ?_)
          refine (LC1.out k (by omega) _ (HR.out.below KX.out)).mono ?_
          rintro e wy ⟨rfl, ky⟩
          have RGu := Lib.hid (Blk.range (BUX.out.below ky))
          have HUY := Lib.hid (HUX.out.below ky)
          have KZ := Lib.hid (KY.out.trans (ky.mono KY.out.size))
          clear ky
          go_wp2_with (refine wpL_tab bu rfl uv RGu.out SLu.out ?_)
          refine (LD1.out uv k (by omega) _ HUY.out).mono ?_
          rintro e wz ⟨rfl, kz⟩
          have KW := Lib.hid (KZ.out.trans (kz.mono KZ.out.size))
          rw [LE1.out]
          clear kz
          generalize (longest T s k).1 = x1 at *
          generalize (longest T s k).2 = x2 at *
          go_wp2_with fail
          go_roundw
          case rel => exact ⟨k + 1, by omega, by go_num, KW.out⟩
          case measure => simp [intOf]; omega
        · have t1 : decide (k < ln + 1) = false := by simpa using hlt
          have t2 : decide ((k : Int) < (ln : Int) + 1) = false := by simp; omega
          go_upto_region 15 with fail
          obtain ⟨_, _, _, au2, cu2, _, _, m3, _, _, _⟩ := TbAt.cells (w := wr) (b := bu) (T := trimT T) ⟨HUX.out.len, HUX.out.byte, uv, BUX.out, HUX.out⟩
          have M3 := Lib.hid m3
          have hbu : bu < wr.heap.size := BUX.out.lt
          clear m3
          generalize hnn : (trimT T).next.length = nn at *
          have HS := Lib.hid (show ∀ w', Below wr.heap.size wr w' → w'.rangeAt bu 0 uv.toList ∧ w'.cell? ⟨bu, 258, none⟩ = some (.slice au2 nn cu2) ∧ Below wr.heap.size wr w' from fun w' k => ⟨Blk.range (BUX.out.below k), (k.cell (p := ⟨bu, _, none⟩) hbu).trans M3.out, k⟩)
          have DW := Lib.hid (show Below wr.heap.size wr wr.drew from below_dr (Below.refl _ _))
          refine wp_region_held_drew (S := fun w' => w'.rangeAt bu 0 uv.toList ∧ w'.cell? ⟨bu, 258, none⟩ = some (.slice au2 nn cu2) ∧ Below wr.heap.size wr w') (by kernel_rfl) (HS.out _ DW.out) (fun hHeld => ?_)
          refine' wpAnyH_take (i := 0) (v := _) rfl (by kernel_rfl) (by kernel_rfl) (by kernel_rfl) (fun _ _ _ h => h) (yields_tab (by kernel_rfl) _ rfl bu ?hx0 uv (fun _ h1 => h1.1) SLu.out) (by assumption) ?r0
          case hx0 => (go_simp; try with_reducible rfl)
          try simp only [Act.put]
          refine' wpAnyH_take (i := 3) (v := _) rfl (by kernel_rfl) (by kernel_rfl) (by kernel_rfl) (fun _ _ _ h => h) (Or.inl ⟨by kernel_rfl, ?hy3⟩) (by assumption) ?r3
          case hy3 => (intro w hSw; (try dsimp only at hSw); go_simp; with_reducible rfl)
          try simp only [Act.put]
          refine' wpAnyH_take (i := 4) (v := _) rfl (by kernel_rfl) (by kernel_rfl) (by kernel_rfl) (fun _ _ _ h => h) (Or.inl ⟨by kernel_rfl, ?hy4⟩) (by assumption) ?r4
          case hy4 => (intro w hSw; (try dsimp only at hSw); go_simp; with_reducible rfl)
          try simp only [Act.put]
          refine' wpAnyH_take (i := 5) (v := _) rfl (by kernel_rfl) (by kernel_rfl) (by kernel_rfl) (fun _ _ _ h => h) (Or.inl ⟨by kernel_rfl, ?hy5⟩) (by assumption) ?r5
          case hy5 => (intro w hSw; (try dsimp only at hSw); go_simp; with_reducible rfl)
          try simp only [Act.put]
          refine wpAnyH_ready (rs := [1]) (by kernel_rfl) (by simp) (AllReadyH.cons rfl (fun K' hK => ?_) AllReadyH.nil)
          go_simp
          go_wp2_with fail
          refine (rreached_c uv _ TR.out _ (HUX.out.below DW.out)).mono ?_
          rintro e x3 ⟨zv, rfl, ho, k3⟩
          unfold Own at ho
          rw [sortI_len, TOR.out] at ho
          obtain ⟨za, zc, rfl, _⟩ := own_form ho
          have W3 := Lib.hid (below_step DW.out k3)
          clear ho k3
          refine hK.out _ _ (HS.out _ W3.out) (fun hHeld => ?_)
          clear hK K'
          refine' wpAnyH_take (i := 2) (v := _) rfl (by kernel_rfl) (by kernel_rfl) (by kernel_rfl) (fun _ _ _ h => h) (Or.inl ⟨by kernel_rfl, ?hy2⟩) (by assumption) ?r2
          case hy2 => (intro w hSw; (try dsimp only at hSw); go_simp; with_reducible rfl)
          try simp only [Act.put]
          refine' wpAnyH_take (i := 6) (v := _) rfl (by kernel_rfl) (by kernel_rfl) (by kernel_rfl) (fun _ _ _ h => h) (Or.inl ⟨by kernel_rfl, ?hy6⟩) (by assumption) ?r6
          case hy6 => (intro w hSw; (try dsimp only at hSw); go_simp; with_reducible rfl)
          try simp only [Act.put]
          refine' wpAnyH_take (i := 7) (v := _) rfl (by kernel_rfl) (by kernel_rfl) (by kernel_rfl) (fun _ _ _ h => h) (Or.inl ⟨by kernel_rfl, ?hy7⟩) (by assumption) ?r7
          case hy7 => (intro w hSw; (try dsimp only at hSw); go_simp; with_reducible rfl)
          try simp only [Act.put]
          refine' wpAnyH_take (i := 8) (v := _) rfl (by kernel_rfl) (by kernel_rfl) (by kernel_rfl) (fun _ _ _ h => h) (yields_tab (by kernel_rfl) _ rfl bu ?hx8 uv (fun _ h1 => h1.1) SLu.out) (by assumption) ?r8
          case hx8 => (go_simp; try with_reducible rfl)
          try simp only [Act.put]
          refine' wpAnyH_take (i := 11) (v := _) rfl (by kernel_rfl) (by kernel_rfl) (by kernel_rfl) (fun _ _ _ h => h) (Or.inl ⟨by kernel_rfl, ?hy11⟩) (by assumption) ?r11
          case hy11 => (intro w hSw; (try dsimp only at hSw); go_simp; with_reducible rfl)
          try simp only [Act.put]
          refine' wpAnyH_take (i := 12) (v := _) rfl (by kernel_rfl) (by kernel_rfl) (by kernel_rfl) (fun _ _ _ h => h) (Or.inl ⟨by kernel_rfl, ?hy12⟩) (by assumption) ?r12
          case hy12 => (intro w hSw; (try dsimp only at hSw); go_simp; with_reducible rfl)
          try simp only [Act.put]
          refine' wpAnyH_take (i := 13) (v := _) rfl (by kernel_rfl) (by kernel_rfl) (by kernel_rfl) (fun _ _ _ h => h) (Or.inl ⟨by kernel_rfl, ?hy13⟩) (by assumption) ?r13
          case hy13 => (intro w hSw; (try dsimp only at hSw); go_simp; with_reducible rfl)
          try simp only [Act.put]
          refine wpAnyH_ready (rs := [9]) (by kernel_rfl) (by simp) (AllReadyH.cons rfl (fun K' hK => ?_) AllReadyH.nil)
          go_simp
          go_wp2_with fail
          refine (ruseful_c uv _ TR.out _ (HUX.out.below W3.out)).mono ?_
          rintro e x4 ⟨⟨zv, rfl, ho⟩, k4⟩
          rw [TUL.out] at ho
          obtain ⟨za2, zc2, rfl, _⟩ := own_form ho
          have W4 := Lib.hid (below_step W3.out k4)
          clear ho k4
          refine hK.out _ _ (HS.out _ W4.out) (fun hHeld => ?_)
          clear hK K'
          refine' wpAnyH_take (i := 10) (v := _) rfl (by kernel_rfl) (by kernel_rfl) (by kernel_rfl) (fun _ _ _ h => h) (Or.inl ⟨by kernel_rfl, ?hy10⟩) (by assumption) ?r10
          case hy10 => (intro w hSw; (try dsimp only at hSw); go_simp; with_reducible rfl)
          try simp only [Act.put]
          refine' wpAnyH_take (i := 14) (v := _) rfl (by kernel_rfl) (by kernel_rfl) (by kernel_rfl) (fun _ _ _ h => h) (Or.inl ⟨by kernel_rfl, ?hy14⟩) (by assumption) ?r14
          case hy14 => (intro w hSw; (try dsimp only at hSw); go_simp; with_reducible rfl)
          try simp only [Act.put]
          refine' wpAnyH_take (i := 15) (v := _) rfl (by kernel_rfl) (by kernel_rfl) (by kernel_rfl) (fun _ _ _ h => h) (Or.inl ⟨by kernel_rfl, ?hy15⟩) (by assumption) ?r15
          case hy15 => (intro w hSw; (try dsimp only at hSw); go_simp; with_reducible rfl)
          try simp only [Act.put]
          refine wpAnyH_ready (rs := [16]) (by kernel_rfl) (by simp) (AllReadyH.cons rfl (fun K' hK => ?_) AllReadyH.nil)
          go_simp
          refine hK.out _ _ (HS.out _ W4.out) (fun hHeld => ?_)
          clear hK K' hHeld
          refine wpAnyH_done (by kernel_rfl) ?_ _
          go_wp2_with fail
          go_returns
          exact ⟨rfl, by rw [hg]; exact W0.out.trans ((KX.out.trans (W4.out.mono KX.out.size)).mono (by rw [← hg]; exact W0.out.size))⟩
end Go.Proofs.Ytafcnehinanecaa
