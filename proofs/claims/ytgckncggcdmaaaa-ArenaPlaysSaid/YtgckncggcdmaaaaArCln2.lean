/- Whether what no region has holds noughts. -/
import Derived.Test.YtgckncggcdmaaaaArCln
namespace Go.Proofs.Ytgckncggcdmaaaa
open Go.RowKit Go.Maps
theorem lst_cells {A : Ar} : rgCs (prs A.rs) ++ [.int .i64 (A.size : Int), .int .i64 0] = rgCs (lst A) := by unfold lst; rw [rgCs_app]; rfl
set_option maxHeartbeats 2000000 in
set_option maxRecDepth 100000 in
theorem clean_c (A : Ar) (h : A.ok) (g c b : Nat) (mv : Value) (w : World) (hA : ArAt w g c b mv A) : Calls Try.prog 19 #[.pointer (some ⟨g, 0, none⟩)] w fun e w' => e = .returned (.bool true) ∧ Below w.heap.size w w' := by
  have hne : (69 : TypeId) ≠ 62 := by decide
  obtain ⟨i0, hi, hz0, hz1, hz2⟩ := info_parts rgInfo
  have RC := Lib.hid (fun w1 (h1 : ArAt w1 g c b mv A) => rows_c A h g c b mv w1 h1)
  have CC := Lib.hid (fun n hn v w1 h1 => cont_c n hn v w1 h1)
  have HA := Lib.hid hA
  have H := Lib.hid h
  have hsz := h.size
  have hlr := len_rs h
  have PL := Lib.hid (prs_len A.rs)
  have LL := Lib.hid (lst_len A)
  have hgl := hA.head.lt
  have c1 := hA.head.cell 1
  simp at c1
  have HAd := Lib.hid (show ArAt w.drew g c b mv A from HA.out.drewN 1)
  have HS := Lib.hid (fun w' (hw : Below w.heap.size w w') => (⟨((bcell hw).1 g 1 hgl).trans c1, hw⟩ : w'.cell? ⟨g, 1, none⟩ = some (.slice (some ⟨c, 0, none⟩) A.size A.size) ∧ Below w.heap.size w w'))
  clear h hA
  go_enter Try.func19, Try.ntmps19
  go_upto_region 4 with fail
  go_cut [17, 18, 19] from 8 to 19 (fun v17 v18 v19 wx => v18 = .int .i64 ((A.rs.length + 1 : Nat) : Int) ∧ v19 = .int .i64 0 ∧ wx.ownsRow w.heap.size 62 2 v17 (lst A).length (rgCs (lst A)) ∧ Below w.heap.size w wx)
  case first =>
    refine wp_region_held_drew (S := fun w' => w'.cell? ⟨g, 1, none⟩ = some (.slice (some ⟨c, 0, none⟩) A.size A.size) ∧ Below w.heap.size w w') (by kernel_rfl) ⟨c1, below_draws (Below.refl _ _) 1⟩ (fun hHeld => ?_)
    refine' wpAnyH_take (i := 0) (v := _) rfl (by kernel_rfl) (by kernel_rfl) (by kernel_rfl) (fun _ _ _ h => h) (Or.inl ⟨by kernel_rfl, ?hy0⟩) (by assumption) ?r0
    case hy0 => (intro w hSw; (try dsimp only at hSw); go_simp; with_reducible rfl)
    try simp only [Act.put]
    refine' wpAnyH_take (i := 2) (v := _) rfl (by kernel_rfl) (by kernel_rfl) (by kernel_rfl) (fun _ _ _ h => h) (Or.inl ⟨by kernel_rfl, ?hy2⟩) (by assumption) ?r2
    case hy2 => (intro w hSw; (try dsimp only at hSw); go_simp; with_reducible rfl)
    try simp only [Act.put]
    refine' wpAnyH_take (i := 3) (v := _) rfl (by kernel_rfl) (by kernel_rfl) (by kernel_rfl) (fun _ _ _ h => h) (Or.inl ⟨by kernel_rfl, ?hy3⟩) (by assumption) ?r3
    case hy3 => (intro w hSw; (try dsimp only at hSw); go_simp; with_reducible rfl)
    try simp only [Act.put]
    refine' wpAnyH_take (i := 4) (v := _) rfl (by kernel_rfl) (by kernel_rfl) (by kernel_rfl) (fun _ _ _ h => h) (Or.inl ⟨by kernel_rfl, ?hy4⟩) (by assumption) ?r4
    case hy4 => (intro w hSw; (try dsimp only at hSw); go_simp; with_reducible rfl)
    try simp only [Act.put]
    refine' wpAnyH_take (i := 5) (v := _) rfl (by kernel_rfl) (by kernel_rfl) (by kernel_rfl) (fun _ _ _ h => h) (Or.inl ⟨by kernel_rfl, ?hy5⟩) (by assumption) ?r5
    case hy5 => (intro w hSw; obtain ⟨hq1, hq2⟩ := hSw; go_simp; with_reducible rfl)
    try simp only [Act.put]
    refine' wpAnyH_take (i := 6) (v := _) rfl (by kernel_rfl) (by kernel_rfl) (by kernel_rfl) (fun _ _ _ h => h) (Or.inl ⟨by kernel_rfl, ?hy6⟩) (by assumption) ?r6
    case hy6 => (intro w hSw; (try dsimp only at hSw); go_simp; with_reducible rfl)
    try simp only [Act.put]
    refine' wpAnyH_take (i := 7) (v := _) rfl (by kernel_rfl) (by kernel_rfl) (by kernel_rfl) (fun _ _ _ h => h) (Or.inl ⟨by kernel_rfl, ?hy7⟩) (by assumption) ?r7
    case hy7 => (intro w hSw; (try dsimp only at hSw); go_simp; with_reducible rfl)
    try simp only [Act.put]
    refine' wpAnyH_take (i := 11) (v := _) rfl (by kernel_rfl) (by kernel_rfl) (by kernel_rfl) (fun _ _ _ h => h) (Or.inl ⟨by kernel_rfl, ?hy11⟩) (by assumption) ?r11
    case hy11 => (intro w hSw; (try dsimp only at hSw); go_simp; with_reducible rfl)
    try simp only [Act.put]
    refine wpAnyH_ready (rs := [1, 8]) (by kernel_rfl) (by simp) (AllReadyH.cons rfl (fun K' hK => ?_) (AllReadyH.cons rfl (fun K' hK => ?_) AllReadyH.nil))
    · go_simp
      refine (RC.out _ HAd.out).mono ?_
      rintro e x1 ⟨v, rfl, h1, h2⟩
      have W1 := Lib.hid (below_step (below_draws (Below.refl _ w) 1) h2)
      have HV := Lib.hid (own_mono h1 (Nat.le_refl _))
      clear h1 h2
      refine hK.out _ _ (HS.out _ W1.out) (fun hHeld => ?_)
      clear hK K'
      refine wpAnyH_ready (rs := [8]) (by kernel_rfl) (by simp) (AllReadyH.cons rfl (fun K' hK => ?_) AllReadyH.nil)
      go_simp
      have W2 := Lib.hid (below_alloc W1.out (.cells #[.int .i64 (A.size : Int), .int .i64 0] 62))
      refine hK.out _ _ (HS.out _ W2.out) (fun hHeld => ?_)
      clear hK K'
      have hown : (x1.alloc (.cells #[.int .i64 (A.size : Int), .int .i64 0] 62)).ownsRow w.heap.size 62 2 v (prs A.rs).length (rgCs (prs A.rs)) := HV.out.alloc _
      have hnews := cells_two_new x1 62 (.int .i64 (A.size : Int)) (.int .i64 0)
      have hsw := W2.out.size
      generalize x1.alloc (.cells #[.int .i64 (A.size : Int), .int .i64 0] 62) = x2 at *
      generalize x1.heap.size = q at *
      refine wpAnyH_ready (rs := [9]) (by kernel_rfl) (by simp) (AllReadyH.cons rfl (fun K' hK => ?_) AllReadyH.nil)
      rw [if_pos (by kernel_rfl)]
      refine wp_append_own _ (.tmp 9) (.tmp 16) 69 rfl w.heap.size 62 i0 _ 2 16 Try.underlying69 hi hz0 hz1 hz2 rfl (by omega) v _ _ rfl hown _ 1 1 [.int .i64 (A.size : Int), .int .i64 0] rfl rfl hnews (by intro y hy; simp at hy; rcases hy with rfl | rfl <;> rfl) (by rw [PL.out]; unfold maxLen; omega) (by rw [PL.out]; omega) hsw ?_
      intro v' x3 hown3 hgr3 _
      have W3 := Lib.hid (Below.ofGrown W2.out hown hgr3 (Nat.le_refl _) hsw)
      rw [lst_cells, PL.out] at hown3
      obtain ⟨ao, cap, rfl, _⟩ := own_form hown3
      have HV3 := Lib.hid hown3
      refine hK.out _ _ (HS.out _ W3.out) (fun hHeld => ?_)
      clear hK K' hown hnews hown3 hgr3
      refine wpAnyH_ready (rs := [10]) (by kernel_rfl) (by simp) (AllReadyH.cons rfl (fun K' hK => ?_) AllReadyH.nil)
      go_simp
      refine hK.out _ _ hHeld (fun hHeld => ?_)
      clear hK K' hHeld
      refine wpAnyH_done (by kernel_rfl) ?_ _
      go_wp2_with fail
      go_meet
      exact ⟨by simp, rfl, by rw [LL.out]; exact HV3.out, W3.out⟩
    · go_simp
      have W1 := Lib.hid (below_alloc (below_draws (Below.refl _ w) 1) (.cells #[.int .i64 (A.size : Int), .int .i64 0] 62))
      have HB := Lib.hid (Blk.made (w.drewN 1) 62 #[.int .i64 (A.size : Int), .int .i64 0])
      refine hK.out _ _ (HS.out _ W1.out) (fun hHeld => ?_)
      clear hK K'
      refine wpAnyH_ready (rs := [1]) (by kernel_rfl) (by simp) (AllReadyH.cons rfl (fun K' hK => ?_) AllReadyH.nil)
      go_simp
      refine (RC.out _ (HAd.out.below ((Below.refl _ w.drew).alloc (Nat.le_refl _) _))).mono ?_
      rintro e x2 ⟨v, rfl, h1, h2⟩
      have W2 := Lib.hid (below_step W1.out h2)
      have hown : x2.ownsRow w.heap.size 62 2 v (prs A.rs).length (rgCs (prs A.rs)) := own_mono h1 (by simp)
      have hnews : ∀ j y, [Value.int .i64 (A.size : Int), .int .i64 0][j]? = some y → x2.cell? ((⟨w.heap.size, 0, none⟩ : Addr).add j) = some y := fun j y hj => by
        have hq := (HB.out.below h2).cell j
        rw [show (⟨w.heap.size, 0, none⟩ : Addr).add j = ⟨w.heap.size, j, none⟩ from by unfold Addr.add; split <;> simp_all]
        refine (show x2.cell? ⟨w.heap.size, j, none⟩ = _ from hq).trans ?_
        simpa using hj
      have hsw := W2.out.size
      clear h1 h2
      refine hK.out _ _ (HS.out _ W2.out) (fun hHeld => ?_)
      clear hK K' HB
      refine wpAnyH_ready (rs := [9]) (by kernel_rfl) (by simp) (AllReadyH.cons rfl (fun K' hK => ?_) AllReadyH.nil)
      rw [if_pos (by kernel_rfl)]
      refine wp_append_own _ (.tmp 9) (.tmp 16) 69 rfl w.heap.size 62 i0 _ 2 16 Try.underlying69 hi hz0 hz1 hz2 rfl (by omega) v _ _ rfl hown _ 1 1 [.int .i64 (A.size : Int), .int .i64 0] rfl rfl hnews (by intro y hy; simp at hy; rcases hy with rfl | rfl <;> rfl) (by rw [PL.out]; unfold maxLen; omega) (by rw [PL.out]; omega) hsw ?_
      intro v' x3 hown3 hgr3 _
      have W3 := Lib.hid (Below.ofGrown W2.out hown hgr3 (Nat.le_refl _) hsw)
      rw [lst_cells, PL.out] at hown3
      obtain ⟨ao, cap, rfl, _⟩ := own_form hown3
      have HV3 := Lib.hid hown3
      refine hK.out _ _ (HS.out _ W3.out) (fun hHeld => ?_)
      clear hK K' hown hnews hown3 hgr3
      refine wpAnyH_ready (rs := [10]) (by kernel_rfl) (by simp) (AllReadyH.cons rfl (fun K' hK => ?_) AllReadyH.nil)
      go_simp
      refine hK.out _ _ hHeld (fun hHeld => ?_)
      clear hK K' hHeld
      refine wpAnyH_done (by kernel_rfl) ?_ _
      go_wp2_with fail
      go_meet
      exact ⟨by simp, rfl, by rw [LL.out]; exact HV3.out, W3.out⟩
  case rest =>
    obtain ⟨rfl, rfl, hown, hB⟩ := hcut
    rename World => wc
    obtain ⟨ao, cap, rfl, hc⟩ := rgs_cells hown
    have HB := Lib.hid hB
    have HC := Lib.hid hc
    have HAc := Lib.hid (HA.out.below hB)
    have swc := hB.size
    rw [LL.out]
    clear hown hB hc c1 RC HS HAd
    go_wp2_with fail
    go_loopw [3, 19] (fun a i wr => ∃ (k at_ : Nat), k ≤ A.rs.length + 1 ∧ GapAt A k at_ ∧ i = .int .i64 k ∧ a = .int .i64 at_ ∧ Below wc.heap.size wc wr) (fun _ i _ => A.rs.length + 1 - (intOf i).toNat)
    case atStart => exact ⟨0, 0, by omega, GapAt.start A, rfl, rfl, Below.refl _ _⟩
    case round =>
      obtain ⟨k, at_, hk, hG, rfl, rfl, hR⟩ := hrel
      have HG := Lib.hid hG
      have HR := Lib.hid hR
      have sR := hR.size
      clear hG hR
      by_cases hlt : k < A.rs.length + 1
      · obtain ⟨gb, rfl, hb1, hb2, hcell⟩ := HC.out (by rw [LL.out]; omega)
        obtain ⟨a1, a2⟩ := hcell k (by rw [LL.out]; exact hlt)
        obtain ⟨rb, rn, e1, g1, g2, g3, g4⟩ := HG.out.step H.out hlt
        rw [e1] at a1 a2
        simp only at a1 a2
        have c0 := ((bcell HR.out).1 gb (k * 2) hb2).trans a1
        have c2 := ((bcell HR.out).1 gb (k * 2 + 1) hb2).trans a2
        have hAr := HAc.out.below HR.out
        have c1 := hAr.head.cell 1
        simp at c1
        have hgr := hAr.head.lt
        have G4 := Lib.hid g4
        have t0 : decide (k < A.rs.length + 1) = true := by simp; omega
        have t2 : (k : Int) < (A.rs.length + 1 : Nat) := by omega
        have t3 : decide ((k : Int) < (A.rs.length : Int) + 1) = true := by simp; omega
        have HZ := Lib.hid (show ∀ j, j < rb - at_ → wr.cell? ⟨c, at_ + j, none⟩ = some (.int .i64 0) from fun j hj => by
          rw [hAr.rows.cell]
          have := g3 (at_ + j) (by omega) (by omega)
          simp [ints, this])
        have hcl := hAr.rows.lt
        clear hcell a1 a2 e1 g3 g4 hAr
        go_wp2_with fail
        by_cases hs : at_ = A.size
        · subst hs
          obtain rfl : rb = A.size := by omega
          go_quiet ((go_at_call 33; exact Calls.quiet_of_same ((CC.out 0 (by omega) _ _ ⟨_, _, rfl, fun h => absurd h (by omega)⟩).mono fun _ _ ⟨h1, h2⟩ => ⟨h1, h2.symm⟩)))
          go_wp2_with fail
          go_roundw
          case rel => exact ⟨k + 1, A.size + rn, by omega, G4.out, by go_num, by go_num, below_draws (below_alloc HR.out _) _⟩
          case measure => simp [intOf]; omega
        · have t4 : (at_ : Int) < (A.size : Nat) := by omega
          go_quiet ((go_at_call 33; exact Calls.quiet_of_same ((CC.out (rb - at_) (by omega) _ _ ⟨_, _, rfl, fun _ => ⟨c, at_, rfl, fun j hj => ((bcell (below_draws (below_alloc (Below.refl _ wr) _) _)).1 c (at_ + j) hcl).trans (HZ.out j hj)⟩⟩).mono fun _ _ ⟨h1, h2⟩ => ⟨h1, h2.symm⟩)))
          go_wp2_with fail
          go_roundw
          case rel => exact ⟨k + 1, rb + rn, by omega, G4.out, by go_num, by go_num, below_draws (below_alloc HR.out _) _⟩
          case measure => simp [intOf]; omega
      · have e : k = A.rs.length + 1 := by omega
        subst e
        have t0 : ¬ A.rs.length + 1 < A.rs.length + 1 := by omega
        go_wp2_with fail
        go_ret
        exact ⟨rfl, below_step HB.out HR.out⟩
end Go.Proofs.Ytgckncggcdmaaaa
