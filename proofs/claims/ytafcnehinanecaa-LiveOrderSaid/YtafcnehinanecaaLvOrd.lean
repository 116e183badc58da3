/- The walk of LiveOrder. -/
import Derived.Test.YtafcnehinanecaaLvAwake
namespace Go.Proofs.Ytafcnehinanecaa
open Go.RowKit
theorem order_may {T : Tb} (p : RightP T) (may : Int → Bool) : MayP T (order T may) := ⟨order_nodup p may, fun _ hx => ⟨(order_in p hx).1, (order_in p hx).2.1⟩, order_first p may⟩
theorem upI_take (n k : Nat) (h : k < (upI n).length) : (upI n)[k] = (k : Int) := upI_at n h
attribute [local irreducible] Calls
set_option maxHeartbeats 8000000 in
set_option maxRecDepth 100000 in
theorem liveOrder_c (tv : Array Value) (T : Tb) (hbig : T.next.length ≤ 9223372036854775807) (w : World) (h : TbR w tv T) : Calls Try.prog 6 #[.agg tv] w fun e w' => e = .returned (.bool true) ∧ Below w.heap.size w w' := by
  have Z := (zero_of_info z0_info).1
  have hzz := z0_size
  have hne : ¬ Z0v = #[] := fun e => by have := z0_size; rw [e] at this; exact nomatch this
  have K0 := below_alloc (Below.refl w.heap.size w) (.cells tv 26)
  have W0 := Lib.hid K0
  have HT := Lib.hid h.boxed
  have HR := Lib.hid (h.below K0)
  have B1 := Lib.hid (Blk.made w 26 tv)
  have SL := Lib.hid (tab_len tv h.size)
  have AWC := Lib.hid awake_c
  have FC := Lib.hid (fun w1 (h1 : TbR w1 tv T) => few_c tv T hbig w1 h1)
  have RC := Lib.hid (fun w1 (h1 : TbR w1 tv T) => rright_c tv T w1 h1)
  clear h K0
  go_enter Try.func6, Try.ntmps6
  go_upto_region 1 with fail
  generalize w.alloc (.cells tv 26) = wa at *
  generalize hg : w.heap.size = b1 at *
  go_cut [29] from 12 to 29 (fun v wx => v = .bool (!fewB T || (decide (60 < T.next.length) || !rightB T)) ∧ Below wa.heap.size wa wx)
  case first =>
    go_wp2_with fail
    refine (AWC.out _).mono ?_
    rintro e w1 ⟨rfl, k1⟩
    have K1 := Lib.hid k1
    have RG := Lib.hid (Blk.range (B1.out.below k1))
    clear k1
    go_wp2_with (refine wpL_tabW (by rfl) b1 rfl tv RG.out SL.out ?_)
    refine (FC.out _ (HR.out.below K1.out)).mono ?_
    rintro e w2 ⟨rfl, k2⟩
    have K2 := Lib.hid (below_step K1.out k2)
    obtain ⟨c0, c1, cr, an, cn, at_, ct, c3, c4, hra, hta⟩ := (HT.out.below K2.out).cells
    have RG := Lib.hid (Blk.range (B1.out.below K2.out))
    clear k2 c0 c1 cr c4 hra hta
    cases hf : fewB T with
    | false =>
      go_wp2_with fail
      go_meet
      exact ⟨by rw [hf]; rfl, K2.out⟩
    | true =>
      by_cases h60 : 60 < T.next.length
      · have t1 : decide (60 < T.next.length) = true := by simpa
        have t2 : decide ((60 : Int) < (T.next.length : Int)) = true := by simp; omega
        go_wp2_with fail
        go_meet
        exact ⟨by rw [hf, t1]; rfl, K2.out⟩
      · have t1 : decide (60 < T.next.length) = false := by simpa using h60
        have t2 : decide ((60 : Int) < (T.next.length : Int)) = false := by simp; omega
        go_wp2_with (refine wpL_tabW (by rfl) b1 rfl tv RG.out SL.out ?_)
        refine (RC.out _ (HR.out.below K2.out)).mono ?_
        rintro e w3 ⟨rfl, k3⟩
        have K3 := Lib.hid (below_step K2.out k3)
        clear k3
        generalize rightB T = rb at *
        go_wp2_with fail
        go_meet
        exact ⟨by rw [hf, t1]; rfl, K3.out⟩
  case rest =>
    obtain ⟨rfl, hw⟩ := hcut
    rename World => wb
    have KB := Lib.hid hw
    clear hw FC RC
    cases hc : (!fewB T || (decide (60 < T.next.length) || !rightB T)) with
    | true =>
      go_wp2_with fail
      refine (AWC.out _).mono ?_
      rintro e w1 ⟨rfl, k1⟩
      have K1 := Lib.hid (below_step KB.out k1)
      clear k1
      go_wp2_with fail
      go_returns
      exact ⟨rfl, by rw [hg]; exact W0.out.trans (K1.out.mono (by rw [← hg]; exact W0.out.size))⟩
    | false =>
      have p : RightP T := by
        cases hr : rightB T with
        | true => exact (rightB_iff T).1 hr
        | false => rw [hr] at hc; simp at hc
      clear hc AWC
      have OY := Lib.hid (order_up p (may := allM) (may' := allM) fun _ _ _ => rfl)
      have ON := Lib.hid (order_right p allM)
      have TR := Lib.hid (trim_right p)
      have TO := Lib.hid (trim_order p (may' := allM) fun _ _ _ => rfl)
      have TU := Lib.hid (trim_useful p)
      have SH := Lib.hid (show (trimT T).next.length ≤ (numberT T (order T allM)).next.length from by
        rw [trim_len]
        have := order_shorter p (may := liveM T) (may' := allM) fun _ _ => rfl
        simpa [numberT] using this)
      have NLn := Lib.hid (show (numberT T (order T allM)).next.length = (order T allM).length from by simp [numberT])
      have hol : (order T allM).length ≤ 300 := by have := order_len p allM; have := p.n3; omega
      have htl : (trimT T).next.length ≤ 300 := (trim_right p).n3
      have MP := Lib.hid (order_may p allM)
      have PP := Lib.hid p
      have RG := Lib.hid (Blk.range (B1.out.below KB.out))
      clear p
      go_wp2_with (refine wpL_tab b1 rfl tv RG.out SL.out ?_)
      refine (lorder_c tv T PP.out _ (HR.out.below KB.out)).mono ?_
      rintro e w1 ⟨lv, rfl, ho, k1⟩
      have K1 := Lib.hid (below_step KB.out k1)
      have RG := Lib.hid (Blk.range (B1.out.below K1.out))
      have HO := Lib.hid ho
      clear k1 ho
      obtain ⟨la, lc, rfl, _⟩ := own_form HO.out
      go_upto_region 4 with fail
      go_wp2_with (refine wpL_tab b1 rfl tv RG.out SL.out ?_)
      have h3 : T.next.length ≤ 65536 := by have := PP.out.n3; omega
      refine (lnumb_c tv T (order T allM) (by omega) h3 _ _ (HR.out.below K1.out) ((IntsAt.own HO.out).mono (Nat.zero_le _))).mono ?_
      rintro e w2 ⟨nv, cn, rfl, hcase, k2⟩
      obtain ⟨rfl, hn⟩ : cn = 0 ∧ TbR w2 nv (numberT T (order T allM)) := by
        rcases hcase with ⟨_, _, a, b⟩ | ⟨a, _, _⟩
        · exact ⟨a, b⟩
        · exact absurd ⟨PP.out, MP.out⟩ a
      have zn := hn.size
      obtain ⟨ST, hblk, k3⟩ := box_store hn
      have K3 := Lib.hid (below_step (below_step K1.out k2) k3)
      have HN := Lib.hid (hn.below k3)
      have BN := Lib.hid hblk
      have RG := Lib.hid (Blk.range (B1.out.below K3.out))
      clear hcase hn k2 hblk k3 h3
      go_upto_region 5 with fail
      clear ST
      generalize hgn : w2.heap.size = bn at *
      clear hgn
      generalize (w2.alloc (.cells Z0v 26)).setRow bn nv = w3 at *
      go_wp2_with (refine wpL_tab b1 rfl tv RG.out SL.out ?_)
      refine (ltrim_c tv T PP.out _ (HR.out.below K3.out)).mono ?_
      rintro e w4 ⟨uv, rfl, hu, k4⟩
      have zu := hu.size
      obtain ⟨ST, hblk, k5⟩ := box_store hu
      have K5 := Lib.hid (below_step (below_step K3.out k4) k5)
      have HN5 := Lib.hid (HN.out.below (below_step k4 k5))
      have BN5 := Lib.hid (BN.out.below (below_step k4 k5))
      have HU := Lib.hid (hu.below k5)
      have BU := Lib.hid hblk
      have RG := Lib.hid (Blk.range (BN5.out))
      have SLn := Lib.hid (tab_len nv zn)
      have SLu := Lib.hid (tab_len uv zu)
      clear hu k4 hblk k5 HN BN
      go_upto_region 6 with fail
      clear ST
      generalize hgu : w4.heap.size = bu at *
      clear hgu
      generalize (w4.alloc (.cells Z0v 26)).setRow bu uv = w5 at *
      go_upto_region 8 with fail
      go_wp2_with (refine wpL_tab bn rfl nv RG.out SLn.out ?_)
      refine (lorder_c nv _ ON.out _ HN5.out).mono ?_
      rintro e w6 ⟨xv, rfl, ho, k6⟩
      rw [OY.out] at ho
      obtain ⟨xa, xc, rfl, _⟩ := own_form ho
      have HX := Lib.hid ((IntsAt.own ho).mono (Nat.zero_le _))
      have K6 := Lib.hid (below_step K5.out k6)
      have HN6 := Lib.hid (HN5.out.below k6)
      have BN6 := Lib.hid (BN5.out.below k6)
      have HU6 := Lib.hid (HU.out.below k6)
      have BU6 := Lib.hid (BU.out.below k6)
      clear ho k6 HN5 BN5 HU BU RG
      rw [upI_len] at HX
      rw [upI_len]
      generalize hm : (order T allM).length = mm at *
      go_wp2_with fail
      go_loopw [8, 9, 53] (fun _ _ i wx => ∃ k : Nat, k ≤ mm ∧ i = .int .i64 k ∧ wx = w6) (fun _ _ i _ => mm - (intOf i).toNat)
      case atStart => exact ⟨0, by omega, rfl, rfl⟩
      case round =>
        obtain ⟨k, hk, rfl, rfl⟩ := hrel
        by_cases hlt : k < mm
        · have t1 : decide (k < mm) = true := by simpa
          have hku : k < (upI mm).length := by rw [upI_len]; exact hlt
          obtain ⟨ob, oo, rfl, _, ock⟩ := HX.out.at_ hku
          rw [upI_at] at ock
          have hmm : (k : Int) ≤ 300 := by omega
          go_wp2_with fail
          go_roundw
          case rel => exact ⟨k + 1, by omega, by go_num, trivial⟩
          case measure => simp [intOf]; omega
        · have t1 : decide (k < mm) = false := by simpa using hlt
          have RG := Lib.hid (Blk.range BU6.out)
          clear HX
          go_upto_region 14 with fail
          go_wp2_with (refine wpL_tab bu rfl uv RG.out SLu.out ?_)
          refine (lorder_c uv _ TR.out _ HU6.out).mono ?_
          rintro e w7 ⟨yv, rfl, ho, k7⟩
          rw [TO.out] at ho
          obtain ⟨ya, yc, rfl, _⟩ := own_form ho
          have HY := Lib.hid ((IntsAt.own ho).mono (Nat.zero_le _))
          have K7 := Lib.hid (below_step K6.out k7)
          have HN7 := Lib.hid (HN6.out.below k7)
          have BN7 := Lib.hid (BN6.out.below k7)
          have HU7 := Lib.hid (HU6.out.below k7)
          have BU7 := Lib.hid (BU6.out.below k7)
          clear ho k7 HN6 BN6 HU6 BU6 RG
          rw [upI_len] at HY
          rw [upI_len]
          generalize hn : (trimT T).next.length = nn at *
          go_wp2_with fail
          go_loopw [10, 11, 65] (fun _ _ i wx => ∃ k : Nat, k ≤ nn ∧ i = .int .i64 k ∧ wx = w7) (fun _ _ i _ => nn - (intOf i).toNat)
          case atStart => exact ⟨0, by omega, rfl, rfl⟩
          case round =>
            obtain ⟨k2, hk2, rfl, rfl⟩ := hrel
            by_cases hlt2 : k2 < nn
            · have t2 : decide (k2 < nn) = true := by simpa
              have hku : k2 < (upI nn).length := by rw [upI_len]; exact hlt2
              obtain ⟨ob, oo, rfl, _, ock⟩ := HY.out.at_ hku
              rw [upI_at] at ock
              have hmm : (k2 : Int) ≤ 300 := by omega
              go_wp2_with fail
              go_roundw
              case rel => exact ⟨k2 + 1, by omega, by go_num, trivial⟩
              case measure => simp [intOf]; omega
            · have t2 : decide (k2 < nn) = false := by simpa using hlt2
              clear HY
              go_upto_region 20 with fail
              have NL2 := NLn.out
              have SH2 := SH.out
              rw [NL2] at SH2
              have tle : decide (nn ≤ mm) = true := by simpa using SH2
              have tle2 : decide ((nn : Int) ≤ (mm : Int)) = true := by simp; omega
              obtain ⟨_, _, _, an2, cn2, _, _, n3, _, _, _⟩ := TbAt.cells (w := wr) (b := bn) (T := numberT T (order T allM)) ⟨HN7.out.len, HN7.out.byte, nv, BN7.out, HN7.out⟩
              obtain ⟨_, _, _, au2, cu2, _, _, m3, _, _, _⟩ := TbAt.cells (w := wr) (b := bu) (T := trimT T) ⟨HU7.out.len, HU7.out.byte, uv, BU7.out, HU7.out⟩
              rw [NL2] at n3
              rw [hn] at m3
              have N3 := Lib.hid n3
              have M3 := Lib.hid m3
              have hbn : bn < wr.heap.size := BN7.out.lt
              have hbu : bu < wr.heap.size := BU7.out.lt
              clear n3 m3 NL2 SH2
              have HS := Lib.hid (show ∀ w', Below wr.heap.size wr w' → w'.rangeAt bu 0 uv.toList ∧ w'.cell? ⟨bn, 258, none⟩ = some (.slice an2 mm cn2) ∧ w'.cell? ⟨bu, 258, none⟩ = some (.slice au2 nn cu2) ∧ Below wr.heap.size wr w' from fun w' k => ⟨Blk.range (BU7.out.below k), (k.cell (p := ⟨bn, _, none⟩) hbn).trans N3.out, (k.cell (p := ⟨bu, _, none⟩) hbu).trans M3.out, k⟩)
              have DW := Lib.hid (show Below wr.heap.size wr wr.drew from below_dr (Below.refl _ _))
              refine wp_region_held_drew (S := fun w' => w'.rangeAt bu 0 uv.toList ∧ w'.cell? ⟨bn, 258, none⟩ = some (.slice an2 mm cn2) ∧ w'.cell? ⟨bu, 258, none⟩ = some (.slice au2 nn cu2) ∧ Below wr.heap.size wr w') (by kernel_rfl) (HS.out _ DW.out) (fun hHeld => ?_)
              refine' wpAnyH_take (i := 0) (v := _) rfl (by kernel_rfl) (by kernel_rfl) (by kernel_rfl) (fun _ _ _ h => h) (Or.inl ⟨by kernel_rfl, ?hy0⟩) (by assumption) ?r0
              case hy0 => (intro w hSw; (try dsimp only at hSw); go_simp; with_reducible rfl)
              try simp only [Act.put]
              refine' wpAnyH_take (i := 1) (v := _) rfl (by kernel_rfl) (by kernel_rfl) (by kernel_rfl) (fun _ _ _ h => h) (Or.inl ⟨by kernel_rfl, ?hy1⟩) (by assumption) ?r1
              case hy1 => (intro w hSw; (try dsimp only at hSw); go_simp; with_reducible rfl)
              try simp only [Act.put]
              refine' wpAnyH_take (i := 2) (v := _) rfl (by kernel_rfl) (by kernel_rfl) (by kernel_rfl) (fun _ _ _ h => h) (Or.inl ⟨by kernel_rfl, ?hy2⟩) (by assumption) ?r2
              case hy2 => (intro w hSw; (try dsimp only at hSw); go_simp; with_reducible rfl)
              try simp only [Act.put]
              refine' wpAnyH_take (i := 3) (v := _) rfl (by kernel_rfl) (by kernel_rfl) (by kernel_rfl) (fun _ _ _ h => h) (Or.inl ⟨by kernel_rfl, ?hy3⟩) (by assumption) ?r3
              case hy3 => (intro w hSw; (try dsimp only at hSw); go_simp; with_reducible rfl)
              try simp only [Act.put]
              refine' wpAnyH_take (i := 4) (v := _) rfl (by kernel_rfl) (by kernel_rfl) (by kernel_rfl) (fun _ _ _ h => h) (Or.inl ⟨by kernel_rfl, ?hy4⟩) (by assumption) ?r4
              case hy4 => (intro w hSw; (try dsimp only at hSw); go_simp; with_reducible rfl)
              try simp only [Act.put]
              refine' wpAnyH_take (i := 5) (v := _) rfl (by kernel_rfl) (by kernel_rfl) (by kernel_rfl) (fun _ _ _ h => h) (Or.inl ⟨by kernel_rfl, ?hy5⟩) (by assumption) ?r5
              case hy5 => (intro w hSw; (try dsimp only at hSw); go_simp; with_reducible rfl)
              try simp only [Act.put]
              refine' wpAnyH_take (i := 6) (v := _) rfl (by kernel_rfl) (by kernel_rfl) (by kernel_rfl) (fun _ _ _ h => h) (Or.inl ⟨by kernel_rfl, ?hy6⟩) (by assumption) ?r6
              case hy6 => (intro w hSw; (try dsimp only at hSw); go_simp; with_reducible rfl)
              try simp only [Act.put]
              refine' wpAnyH_take (i := 7) (v := _) rfl (by kernel_rfl) (by kernel_rfl) (by kernel_rfl) (fun _ _ _ h => h) (yields_tab (by kernel_rfl) _ rfl bu ?hx7 uv (fun _ h1 => h1.1) SLu.out) (by assumption) ?r7
              case hx7 => (go_simp; try with_reducible rfl)
              try simp only [Act.put]
              refine' wpAnyH_take (i := 10) (v := _) rfl (by kernel_rfl) (by kernel_rfl) (by kernel_rfl) (fun _ _ _ h => h) (Or.inl ⟨by kernel_rfl, ?hy10⟩) (by assumption) ?r10
              case hy10 => (intro w hSw; (try dsimp only at hSw); go_simp; with_reducible rfl)
              try simp only [Act.put]
              refine' wpAnyH_take (i := 11) (v := _) rfl (by kernel_rfl) (by kernel_rfl) (by kernel_rfl) (fun _ _ _ h => h) (Or.inl ⟨by kernel_rfl, ?hy11⟩) (by assumption) ?r11
              case hy11 => (intro w hSw; (try dsimp only at hSw); go_simp; with_reducible rfl)
              try simp only [Act.put]
              refine' wpAnyH_take (i := 12) (v := _) rfl (by kernel_rfl) (by kernel_rfl) (by kernel_rfl) (fun _ _ _ h => h) (Or.inl ⟨by kernel_rfl, ?hy12⟩) (by assumption) ?r12
              case hy12 => (intro w hSw; (try dsimp only at hSw); go_simp; with_reducible rfl)
              try simp only [Act.put]
              refine wpAnyH_ready (rs := [8]) (by kernel_rfl) (by simp) (AllReadyH.cons rfl (fun K' hK => ?_) AllReadyH.nil)
              go_simp
              go_wp2_with fail
              refine (lorder_c uv _ TR.out _ (HU7.out.below DW.out)).mono ?_
              rintro e x3 ⟨zv, rfl, ho, k3⟩
              rw [TO.out] at ho
              unfold Own at ho
              rw [upI_len] at ho
              obtain ⟨za, zc, rfl, _⟩ := own_form ho
              have W3 := Lib.hid (below_step DW.out k3)
              clear ho k3
              refine hK.out _ _ (HS.out _ W3.out) (fun hHeld => ?_)
              clear hK K'
              refine' wpAnyH_take (i := 9) (v := _) rfl (by kernel_rfl) (by kernel_rfl) (by kernel_rfl) (fun _ _ _ h => h) (Or.inl ⟨by kernel_rfl, ?hy9⟩) (by assumption) ?r9
              case hy9 => (intro w hSw; (try dsimp only at hSw); go_simp; with_reducible rfl)
              try simp only [Act.put]
              refine' wpAnyH_take (i := 13) (v := _) rfl (by kernel_rfl) (by kernel_rfl) (by kernel_rfl) (fun _ _ _ h => h) (Or.inl ⟨by kernel_rfl, ?hy13⟩) (by assumption) ?r13
              case hy13 => (intro w hSw; (try dsimp only at hSw); go_simp; with_reducible rfl)
              try simp only [Act.put]
              refine' wpAnyH_take (i := 14) (v := _) rfl (by kernel_rfl) (by kernel_rfl) (by kernel_rfl) (fun _ _ _ h => h) (Or.inl ⟨by kernel_rfl, ?hy14⟩) (by assumption) ?r14
              case hy14 => (intro w hSw; (try dsimp only at hSw); go_simp; with_reducible rfl)
              try simp only [Act.put]
              refine' wpAnyH_take (i := 15) (v := _) rfl (by kernel_rfl) (by kernel_rfl) (by kernel_rfl) (fun _ _ _ h => h) (Or.inl ⟨by kernel_rfl, ?hy15⟩) (by assumption) ?r15
              case hy15 => (intro w hSw; (try dsimp only at hSw); go_simp; with_reducible rfl)
              try simp only [Act.put]
              refine' wpAnyH_take (i := 16) (v := _) rfl (by kernel_rfl) (by kernel_rfl) (by kernel_rfl) (fun _ _ _ h => h) (Or.inl ⟨by kernel_rfl, ?hy16⟩) (by assumption) ?r16
              case hy16 => (intro w hSw; (try dsimp only at hSw); go_simp; with_reducible rfl)
              try simp only [Act.put]
              refine' wpAnyH_take (i := 17) (v := _) rfl (by kernel_rfl) (by kernel_rfl) (by kernel_rfl) (fun _ _ _ h => h) (Or.inl ⟨by kernel_rfl, ?hy17⟩) (by assumption) ?r17
              case hy17 => (intro w hSw; (try dsimp only at hSw); go_simp; with_reducible rfl)
              try simp only [Act.put]
              refine' wpAnyH_take (i := 18) (v := _) rfl (by kernel_rfl) (by kernel_rfl) (by kernel_rfl) (fun _ _ _ h => h) (Or.inl ⟨by kernel_rfl, ?hy18⟩) (by assumption) ?r18
              case hy18 => (intro w hSw; (try dsimp only at hSw); go_simp; with_reducible rfl)
              try simp only [Act.put]
              refine' wpAnyH_take (i := 19) (v := _) rfl (by kernel_rfl) (by kernel_rfl) (by kernel_rfl) (fun _ _ _ h => h) (Or.inl ⟨by kernel_rfl, ?hy19⟩) (by assumption) ?r19
              case hy19 => (intro w hSw; (try dsimp only at hSw); go_simp; with_reducible rfl)
              try simp only [Act.put]
              refine' wpAnyH_take (i := 20) (v := _) rfl (by kernel_rfl) (by kernel_rfl) (by kernel_rfl) (fun _ _ _ h => h) (Or.inl ⟨by kernel_rfl, ?hy20⟩) (by assumption) ?r20
              case hy20 => (intro w hSw; (try dsimp only at hSw); go_simp; with_reducible rfl)
              try simp only [Act.put]
              refine' wpAnyH_take (i := 21) (v := _) rfl (by kernel_rfl) (by kernel_rfl) (by kernel_rfl) (fun _ _ _ h => h) (Or.inl ⟨by kernel_rfl, ?hy21⟩) (by assumption) ?r21
              case hy21 => (intro w hSw; (try dsimp only at hSw); go_simp; with_reducible rfl)
              try simp only [Act.put]
              refine' wpAnyH_take (i := 22) (v := _) rfl (by kernel_rfl) (by kernel_rfl) (by kernel_rfl) (fun _ _ _ h => h) (Or.inl ⟨by kernel_rfl, ?hy22⟩) (by assumption) ?r22
              case hy22 => (intro w hSw; (try dsimp only at hSw); go_simp; with_reducible rfl)
              try simp only [Act.put]
              refine' wpAnyH_take (i := 23) (v := _) rfl (by kernel_rfl) (by kernel_rfl) (by kernel_rfl) (fun _ _ _ h => h) (Or.inl ⟨by kernel_rfl, ?hy23⟩) (by assumption) ?r23
              case hy23 => (intro w hSw; (try dsimp only at hSw); go_simp; with_reducible rfl)
              try simp only [Act.put]
              refine' wpAnyH_take (i := 24) (v := _) rfl (by kernel_rfl) (by kernel_rfl) (by kernel_rfl) (fun _ _ _ h => h) (Or.inl ⟨by kernel_rfl, ?hy24⟩) (by assumption) ?r24
              case hy24 => (intro w hSw; (try dsimp only at hSw); go_simp; with_reducible rfl)
              try simp only [Act.put]
              refine' wpAnyH_take (i := 25) (v := _) rfl (by kernel_rfl) (by kernel_rfl) (by kernel_rfl) (fun _ _ _ h => h) (yields_tab (by kernel_rfl) _ rfl bu ?hx25 uv (fun _ h1 => h1.1) SLu.out) (by assumption) ?r25
              case hx25 => (go_simp; try with_reducible rfl)
              try simp only [Act.put]
              refine' wpAnyH_take (i := 28) (v := _) rfl (by kernel_rfl) (by kernel_rfl) (by kernel_rfl) (fun _ _ _ h => h) (Or.inl ⟨by kernel_rfl, ?hy28⟩) (by assumption) ?r28
              case hy28 => (intro w hSw; (try dsimp only at hSw); go_simp; with_reducible rfl)
              try simp only [Act.put]
              refine' wpAnyH_take (i := 29) (v := _) rfl (by kernel_rfl) (by kernel_rfl) (by kernel_rfl) (fun _ _ _ h => h) (Or.inl ⟨by kernel_rfl, ?hy29⟩) (by assumption) ?r29
              case hy29 => (intro w hSw; (try dsimp only at hSw); go_simp; with_reducible rfl)
              try simp only [Act.put]
              refine' wpAnyH_take (i := 30) (v := _) rfl (by kernel_rfl) (by kernel_rfl) (by kernel_rfl) (fun _ _ _ h => h) (Or.inl ⟨by kernel_rfl, ?hy30⟩) (by assumption) ?r30
              case hy30 => (intro w hSw; (try dsimp only at hSw); go_simp; with_reducible rfl)
              try simp only [Act.put]
              refine wpAnyH_ready (rs := [26]) (by kernel_rfl) (by simp) (AllReadyH.cons rfl (fun K' hK => ?_) AllReadyH.nil)
              go_simp
              go_wp2_with fail
              refine (lusefull_c uv _ TR.out _ (HU7.out.below W3.out)).mono ?_
              rintro e x4 ⟨zv, rfl, ho, k4⟩
              rw [TU.out] at ho
              unfold Own at ho
              rw [upI_len] at ho
              obtain ⟨za2, zc2, rfl, _⟩ := own_form ho
              have W4 := Lib.hid (below_step W3.out k4)
              clear ho k4
              refine hK.out _ _ (HS.out _ W4.out) (fun hHeld => ?_)
              clear hK K'
              refine' wpAnyH_take (i := 27) (v := _) rfl (by kernel_rfl) (by kernel_rfl) (by kernel_rfl) (fun _ _ _ h => h) (Or.inl ⟨by kernel_rfl, ?hy27⟩) (by assumption) ?r27
              case hy27 => (intro w hSw; (try dsimp only at hSw); go_simp; with_reducible rfl)
              try simp only [Act.put]
              refine' wpAnyH_take (i := 31) (v := _) rfl (by kernel_rfl) (by kernel_rfl) (by kernel_rfl) (fun _ _ _ h => h) (Or.inl ⟨by kernel_rfl, ?hy31⟩) (by assumption) ?r31
              case hy31 => (intro w hSw; (try dsimp only at hSw); go_simp; with_reducible rfl)
              try simp only [Act.put]
              refine' wpAnyH_take (i := 32) (v := _) rfl (by kernel_rfl) (by kernel_rfl) (by kernel_rfl) (fun _ _ _ h => h) (Or.inl ⟨by kernel_rfl, ?hy32⟩) (by assumption) ?r32
              case hy32 => (intro w hSw; (try dsimp only at hSw); go_simp; with_reducible rfl)
              try simp only [Act.put]
              refine wpAnyH_ready (rs := [33]) (by kernel_rfl) (by simp) (AllReadyH.cons rfl (fun K' hK => ?_) AllReadyH.nil)
              go_simp
              refine hK.out _ _ (HS.out _ W4.out) (fun hHeld => ?_)
              clear hK K' hHeld
              refine wpAnyH_done (by kernel_rfl) ?_ _
              go_wp2_with fail
              go_returns
              exact ⟨rfl, by rw [hg]; exact W0.out.trans ((K7.out.trans (W4.out.mono (K7.out.size))).mono (by rw [← hg]; exact W0.out.size))⟩
end Go.Proofs.Ytafcnehinanecaa
