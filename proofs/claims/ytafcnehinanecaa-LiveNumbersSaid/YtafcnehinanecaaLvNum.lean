/- live.number. -/
import Derived.Test.YtafcnehinanecaaTabNum
import Derived.Test.YtafcnehinanecaaLvTo
import Derived.Test.YtafcnehinanecaaLvRep
import Derived.Test.YtafcnehinanecaaLvFresh
namespace Go.Proofs.Ytafcnehinanecaa
open Go.RowKit
attribute [local irreducible] Calls
set_option maxHeartbeats 8000000 in
set_option maxRecDepth 100000 in
theorem lnumber_c (T : Tb) (p : RightP T) (l : List Int) (hd : l.Nodup) (hin : ∀ x ∈ l, 0 ≤ x ∧ x < T.next.length) (v : Value) (tb : Nat) (w : World) (h : TbAt w tb T) (hv : IntsAt w 0 v l) :
    Calls Try.prog 27 #[.pointer (some ⟨tb, 0, none⟩), v] w fun e w' => (∃ tu, e = .returned (.agg tu) ∧ TbR w' tu (numberT T l) ∧ (∀ k cs, k < w.heap.size → TbR (w'.setRow k cs) tu (numberT T l)) ∧ Fresh (w.heap.size + 1) w' tu (numberT T l)) ∧ Below w.heap.size w w' := by
  have HP := Lib.hid p
  have hn3 : T.next.length ≤ 300 := p.n3
  have hl : l.length ≤ 1000 := by have := nodup_small hd hin; omega
  have h256 := h.len
  have hby := Lib.hid h.byte
  have eg := entTo
  have TC := Lib.hid (fun k hk i5 ab w h => to_c T.next.length l hin k hk i5 ab w h)
  have ST0 := Lib.hid (fun i (hi : i < l.length) => atOf_set (n := T.next.length) hd hin hi)
  obtain ⟨ao, cap, rfl, _⟩ := id hv
  have Z := (zero_of_info info_tabz).1
  generalize hz0 : tbCs 0 0 (List.replicate 256 0) (.slice none 0 0) (.slice none 0 0) = Z0 at *
  have hzs : Z0.size = 260 := by rw [← hz0]; exact tbCs_size _ _ _ _ _ List.length_replicate
  clear hz0
  have K1 := below_alloc (below_alloc (Below.refl w.heap.size w) (.cells Z0 26)) (.cells #[.int .i64 (-1)] 3)
  have RC := Lib.hid (rep_c (-1) (T.next.length + 1) (by omega) (by omega) (w.heap.size + 1) ((w.alloc (.cells Z0 26)).alloc (.cells #[.int .i64 (-1)] 3)) (by
    have := Blk.made (w.alloc (.cells Z0 26)) 3 #[.int .i64 (-1)]
    rwa [World.size_alloc] at this))
  have R1 := Lib.hid (show Blk ((w.alloc (.cells Z0 26)).alloc (.cells #[.int .i64 (-1)] 3)) w.heap.size 26 Z0 from (Blk.made w 26 Z0).alloc _)
  have W1 := Lib.hid K1
  have HT1 := Lib.hid (h.below K1)
  have HTW := Lib.hid h
  have HVW := Lib.hid hv
  have hs1 : ((w.alloc (.cells Z0 26)).alloc (.cells #[.int .i64 (-1)] 3)).heap.size = w.heap.size + 2 := by rw [World.size_alloc, World.size_alloc]
  have htb := h.lt
  obtain ⟨c0, c1, cr, an, cn, at_, ct, c3, c4, hra, hta⟩ := HT1.out.cells
  clear h hv p K1 c0 c1 cr c4 hra hta hd
  go_enter Try.func27, Try.ntmps27
  go_upto_region 2 with (go_at_call 45; refine RC.out.mono ?_; rintro e w1 ⟨ab, rfl, hab, hab2, kw1⟩; have AB := Lib.hid hab; have KW1 := Lib.hid kw1; clear hab kw1)
  have hne1 : ab < w1.heap.size := AB.out.lt
  have I5 := Lib.hid (Blk.made w1 24 #[.slice (some ⟨ab, 0, none⟩) (T.next.length + 1) (T.next.length + 1)])
  have KA := Lib.hid (below_alloc KW1.out (.cells #[.slice (some ⟨ab, 0, none⟩) (T.next.length + 1) (T.next.length + 1)] 24))
  have TA0 := Lib.hid (show ToAt (w1.alloc (.cells #[.slice (some ⟨ab, 0, none⟩) (T.next.length + 1) (T.next.length + 1)] 24)) w1.heap.size ab (atOf T.next.length []) from
    ⟨I5.out.cast (by rw [atOf_len]), (AB.out.alloc _).cast (by rw [atOf_nil]), by omega⟩)
  clear I5 AB RC
  generalize hi5 : w1.heap.size = i5 at *
  generalize w1.alloc _ = wA at *
  rw [hs1] at hab2
  have RA := Lib.hid (R1.out.below KA.out)
  have KK : Below (w.heap.size + 2) ((w.alloc (.cells Z0 26)).alloc (.cells #[.int .i64 (-1)] 3)) wA := by have := KA.out; rwa [hs1] at this
  have W2 := Lib.hid (W1.out.trans (KK.mono (show w.heap.size ≤ w.heap.size + 2 by omega)))
  have hsA : w.heap.size + 2 ≤ wA.heap.size := by have := KK.size; rw [hs1] at this; exact this
  clear KK KA R1 HT1 W1 hs1 c3
  generalize hrb : w.heap.size = rb at *
  have BA := Lib.hid (Below.refl (rb + 2) wA)
  go_wp2_with fail
  go_loopw [6, 7, 25] (fun _ _ i wx => ∃ k : Nat, k ≤ l.length ∧ i = .int .i64 k ∧ ToAt wx i5 ab (atOf T.next.length (l.take k)) ∧ Below (rb + 2) wA wx) (fun _ _ i _ => l.length - (intOf i).toNat)
  case atStart => exact ⟨0, by omega, rfl, TA0.out, BA.out⟩
  case round =>
    clear TA0 BA
    obtain ⟨k, hk, rfl, hto, hw⟩ := hrel
    have TOA := Lib.hid hto
    have HWA := Lib.hid hw
    clear hto hw
    by_cases hlt : k < l.length
    · have t1 : decide (k < l.length) = true := by simpa
      obtain ⟨s0, s1⟩ := hin _ (List.getElem_mem hlt)
      obtain ⟨ob, oo, rfl, hob, ock⟩ := HVW.out.at_ hlt
      have ock : wr.cell? ⟨ob, oo + k, none⟩ = some (.int .i64 l[k]) := ((W2.out.trans (HWA.out.mono (Nat.le_add_right rb 2))).cell (p := ⟨ob, _, none⟩) (show ob < rb by omega)).trans ock
      have SS := Lib.hid (ST0.out k hlt)
      generalize l[k] = s at *
      obtain ⟨sn, rfl⟩ := Int.eq_ofNat_of_zero_le s0
      have hsn : sn < T.next.length := by omega
      have e5 := TOA.out.hi.cell 0
      simp at e5
      rw [atOf_len] at e5
      have t2 : decide (sn < T.next.length + 1) = true := by simp; omega
      have eb := (TOA.out.hb.cell sn).trans (show (ints (atOf T.next.length (l.take k))).toArray[sn]? = some (.int .i64 (place (l.take k) sn)) from by
        unfold ints
        rw [List.getElem?_toArray, List.getElem?_map, atOf_at _ _ (by omega)]; rfl)
      have fb := TOA.out.hb.free sn
      have TO2 := Lib.hid (show ToAt (wr.setCell ⟨ab, sn, none⟩ (.int .i64 k)) i5 ab (atOf T.next.length (l.take (k + 1))) from
        ⟨(TOA.out.hi.far TOA.out.ne _).cast (by rw [atOf_len, atOf_len]), (TOA.out.hb.set sn _).cast (by
          rw [ints_set]
          have h := SS.out
          rw [show ((sn : Int)).toNat = sn from rfl] at h
          rw [h]), TOA.out.ne⟩)
      have HW2 := Lib.hid (HWA.out.setCell (p := ⟨ab, sn, none⟩) hab2 (.int .i64 k))
      generalize place (l.take k) sn = px at *
      clear SS TOA
      go_wp2_with fail
      go_roundw
      case rel => exact ⟨k + 1, by omega, by go_num, TO2.out, HW2.out⟩
      case measure => simp [intOf]; omega
    · have t1 : decide (k < l.length) = false := by simpa using hlt
      rw [show l.take k = l from List.take_of_length_le (by omega)] at TOA
      have W3 := Lib.hid (W2.out.trans (HWA.out.mono (Nat.le_add_right rb 2)))
      have HT := Lib.hid (HTW.out.below (show Below w.heap.size w wr from by rw [hrb]; exact W3.out))
      have HV := Lib.hid (HVW.out.below (show Below w.heap.size w wr from by rw [hrb]; exact W3.out))
      have R0 := Lib.hid (show Blk wr rb 26 Z0 from (HWA.out.block rb (by omega)).trans RA.out)
      have hsz : rb < wr.heap.size := R0.out.lt
      have htb2 : tb < rb := by omega
      clear hk hlt HWA W2 RA ST0 HTW HVW
      go_upto_region 8 with fail
      generalize wr = wb at *
      have HS := Lib.hid (show ∀ w', Below wb.heap.size wb w' → w'.cell? ⟨tb, 0, none⟩ = some (.int .i64 T.classes) ∧ w'.cell? ⟨tb, 1, none⟩ = some (.int .i64 T.start) ∧ w'.rangeAt tb 2 (bytesV T.remap).toList ∧ Below wb.heap.size wb w' from fun w' k => ⟨(HT.out.below k).cells.1, (HT.out.below k).cells.2.1, (HT.out.below k).remap, k⟩)
      have HL := Lib.hid (show (Try.prog.info? 22).map (·.size) = some (bytesV T.remap).toList.length from by rw [Array.length_toList, bytesV_size, h256]; exact info_r)
      have H256 := Lib.hid h256
      have BH := Lib.hid (tab_built T.classes (place l T.start) T.remap h256)
      rw [show bytesV T.remap = (bytesV T.remap).toList.toArray from by rw [Array.toArray_toList]] at BH
      have BSZ := Lib.hid (tbCs_size T.classes (place l T.start) T.remap (.slice none 0 0) (.slice none 0 0) h256)
      have BON := Lib.hid (tbCs_one T.classes (place l T.start) T.remap (vn := .slice none 0 0) (vt := .slice none 0 0) rfl rfl)
      clear h256
      go_cut [9] from 36 to 50 (fun v5 wx => ∃ g5, v5 = .pointer (some ⟨g5, 0, none⟩) ∧ wb.heap.size ≤ g5 ∧ Blk wx g5 26 (tbCs T.classes (place l T.start) T.remap (.slice none 0 0) (.slice none 0 0)) ∧ Below wb.heap.size wb wx)
      case first =>
        have PX := Lib.hid (TC.out T.start HP.out.s2 i5 ab)
        generalize place l T.start = ps at *
        generalize hTC : tbCs T.classes ps T.remap (.slice none 0 0) (.slice none 0 0) = TC at *
        generalize hRV : (bytesV T.remap).toList = RV at *
        clear hTC hRV
        have DW := Lib.hid (show Below wb.heap.size wb wb.drew from ⟨rfl, rfl, rfl, Nat.le_refl _, fun _ _ => rfl⟩)
        refine wp_region_held_drew (S := fun w' => w'.cell? ⟨tb, 0, none⟩ = some (.int .i64 T.classes) ∧ w'.cell? ⟨tb, 1, none⟩ = some (.int .i64 T.start) ∧ w'.rangeAt tb 2 RV ∧ Below wb.heap.size wb w') (by kernel_rfl) (HS.out _ DW.out) (fun hHeld => ?_)
        refine' wpAnyH_take (i := 0) (v := _) rfl (by kernel_rfl) (by kernel_rfl) (by kernel_rfl) (fun _ _ _ h => h) (Or.inl ⟨by rfl, ?hy0⟩) (by assumption) ?r0
        case hy0 => (intro w hSw; (try dsimp only at hSw); go_simp; with_reducible rfl)
        try simp only [Act.put]
        refine' wpAnyH_take (i := 1) (v := _) rfl (by kernel_rfl) (by kernel_rfl) (by kernel_rfl) (fun _ _ _ h => h) (Or.inl ⟨by rfl, ?hy1⟩) (by assumption) ?r1
        case hy1 => (intro w hSw; (try dsimp only at hSw); go_simp; with_reducible rfl)
        try simp only [Act.put]
        refine' wpAnyH_take (i := 2) (v := _) rfl (by kernel_rfl) (by kernel_rfl) (by kernel_rfl) (fun _ _ _ h => h) (Or.inl ⟨by rfl, ?hy2⟩) (by assumption) ?r2
        case hy2 => (intro w hSw; (try dsimp only at hSw); go_simp; with_reducible rfl)
        try simp only [Act.put]
        refine' wpAnyH_take (i := 3) (v := _) rfl (by kernel_rfl) (by kernel_rfl) (by kernel_rfl) (fun _ _ _ h => h) (Or.inl ⟨by rfl, ?hy3⟩) (by assumption) ?r3
        case hy3 => (intro w hSw; (try dsimp only at hSw); go_simp; with_reducible rfl)
        try simp only [Act.put]
        refine' wpAnyH_take (i := 4) (v := _) rfl (by kernel_rfl) (by kernel_rfl) (by kernel_rfl) (fun _ _ _ h => h) (Or.inl ⟨by rfl, ?hy4⟩) (by assumption) ?r4
        case hy4 => (intro w hSw; (try dsimp only at hSw); go_simp; with_reducible rfl)
        try simp only [Act.put]
        refine' wpAnyH_take (i := 5) (v := _) rfl (by kernel_rfl) (by kernel_rfl) (by kernel_rfl) (fun _ _ _ h => h) (Or.inl ⟨by rfl, ?hy5⟩) (by assumption) ?r5
        case hy5 => (intro w hSw; (try dsimp only at hSw); go_simp; with_reducible rfl)
        try simp only [Act.put]
        refine' wpAnyH_take (i := 6) (v := _) rfl (by kernel_rfl) (by kernel_rfl) (by kernel_rfl) (fun _ _ _ h => h) (Or.inl ⟨by rfl, ?hy6⟩) (by assumption) ?r6
        case hy6 => (intro w hSw; (try dsimp only at hSw); go_simp; with_reducible rfl)
        try simp only [Act.put]
        refine' wpAnyH_take (i := 7) (v := _) rfl (by kernel_rfl) (by kernel_rfl) (by kernel_rfl) (fun _ _ _ h => h) (yieldsIf_load_mid (by rfl) 22 _ rfl tb 2 rfl RV _ (fun _ h1 => h1.2.2.1) Try.underlying22 rfl HL.out) (by assumption) ?r7
        try simp only [Act.put]
        refine' wpAnyH_take (i := 8) (v := _) rfl (by kernel_rfl) (by kernel_rfl) (by kernel_rfl) (fun _ _ _ h => h) (Or.inl ⟨by rfl, ?hy8⟩) (by assumption) ?r8
        case hy8 => (intro w hSw; (try dsimp only at hSw); go_simp; with_reducible rfl)
        try simp only [Act.put]
        refine' wpAnyH_take (i := 9) (v := _) rfl (by kernel_rfl) (by kernel_rfl) (by kernel_rfl) (fun _ _ _ h => h) (Or.inl ⟨by rfl, ?hy9⟩) (by assumption) ?r9
        case hy9 => (intro w hSw; (try dsimp only at hSw); go_simp; with_reducible rfl)
        try simp only [Act.put]
        refine' wpAnyH_take (i := 10) (v := _) rfl (by kernel_rfl) (by kernel_rfl) (by kernel_rfl) (fun _ _ _ h => h) (Or.inl ⟨by rfl, ?hy10⟩) (by assumption) ?r10
        case hy10 => (intro w hSw; (try dsimp only at hSw); go_simp; with_reducible rfl)
        try simp only [Act.put]
        refine' wpAnyH_take (i := 11) (v := _) rfl (by kernel_rfl) (by kernel_rfl) (by kernel_rfl) (fun _ _ _ h => h) (Or.inl ⟨by rfl, ?hy11⟩) (by assumption) ?r11
        case hy11 => (intro w hSw; (try dsimp only at hSw); go_simp; with_reducible rfl)
        try simp only [Act.put]
        refine' wpAnyH_take (i := 12) (v := _) rfl (by kernel_rfl) (by kernel_rfl) (by kernel_rfl) (fun _ _ _ h => h) (Or.inl ⟨by rfl, ?hy12⟩) (by assumption) ?r12
        case hy12 => (intro w hSw; (try dsimp only at hSw); go_simp; with_reducible rfl)
        try simp only [Act.put]
        refine wpAnyH_ready (rs := [13, 15]) (by kernel_rfl) (by simp) (AllReadyH.cons rfl (fun K' hK => ?_) (AllReadyH.cons rfl (fun K' hK => ?_) AllReadyH.nil))
        · go_simp
          go_wp2_with fail
          refine (PX.out _ (TOA.out.below hHeld.2.2.2)).mono ?_; rintro e x3 ⟨rfl, k3⟩
          refine hK.out _ _ (HS.out _ (below_step hHeld.2.2.2 k3)) (fun hHeld => ?_)
          clear hK K'
          refine' wpAnyH_take (i := 14) (v := _) rfl (by kernel_rfl) (by kernel_rfl) (by kernel_rfl) (fun _ _ _ h => h) (yieldsIf_build (by rfl) 26 0 2 1 (.tmp 39) (.tmp 43) (.tmp 49) rfl TC _ _ _ rfl rfl rfl BH.out) (by assumption) ?r14a
          try simp only [Act.put]
          refine wpAnyH_ready (rs := [15]) (by kernel_rfl) (by simp) (AllReadyH.cons rfl (fun K' hK => ?_) AllReadyH.nil)
          go_simp
          have HA := Lib.hid (Blk.made x3 26 Z0)
          have HX := Lib.hid (show wb.heap.size ≤ x3.heap.size from hHeld.2.2.2.size)
          refine hK.out _ _ (HS.out _ (below_alloc hHeld.2.2.2 _)) (fun hHeld => ?_)
          clear hK K'
          have HB := Lib.hid (HA.out)
          have HH := Lib.hid hHeld.2.2.2
          clear hHeld
          have ST : ∀ (wq : World), Blk wq x3.heap.size 26 Z0 → (storeCells ⟨x3.heap.size, 0, none⟩ TC.toList).run Try.prog wq = .ok () (wq.setRow x3.heap.size TC) := fun wq hq => by
            have := run_storeCells_from (P := Try.prog) x3.heap.size 26 TC.toList 0 Z0 wq hq (by rw [Array.length_toList, BSZ.out, hzs]) (fun v hv => (Array.all_eq_true_iff_forall_mem.1 BON.out) v (by simpa using hv))
            simpa using this
          have ST2 := ST _ HB.out
          clear ST
          refine wpAnyH_ready (rs := [16]) (by kernel_rfl) (by simp) (AllReadyH.cons rfl (fun K' hK => ?_) AllReadyH.nil)
          have hts : TC.size = 260 := BSZ.out
          go_simp
          have HB2 := Lib.hid (Blk.row HB.out TC)
          have HH2 := Lib.hid (below_row HH.out (g := x3.heap.size) HX.out TC)
          clear ST2
          refine hK.out _ _ (HS.out _ HH2.out) (fun hHeld => ?_)
          clear hK K' hHeld
          refine wpAnyH_done (by kernel_rfl) ?_ _
          go_wp2_with fail
          go_meet
          exact ⟨_, rfl, HX.out, HB2.out, HH2.out⟩
        · go_simp
          have HA := Lib.hid (Blk.made wb.drew 26 Z0)
          refine hK.out _ _ (HS.out _ (below_alloc hHeld.2.2.2 _)) (fun hHeld => ?_)
          clear hK K'
          refine wpAnyH_ready (rs := [13]) (by kernel_rfl) (by simp) (AllReadyH.cons rfl (fun K' hK => ?_) AllReadyH.nil)
          go_simp
          go_wp2_with fail
          refine (PX.out _ (TOA.out.below hHeld.2.2.2)).mono ?_; rintro e x3 ⟨rfl, k3⟩
          refine hK.out _ _ (HS.out _ (below_step hHeld.2.2.2 k3)) (fun hHeld => ?_)
          clear hK K'
          refine' wpAnyH_take (i := 14) (v := _) rfl (by kernel_rfl) (by kernel_rfl) (by kernel_rfl) (fun _ _ _ h => h) (yieldsIf_build (by rfl) 26 0 2 1 (.tmp 39) (.tmp 43) (.tmp 49) rfl TC _ _ _ rfl rfl rfl BH.out) (by assumption) ?r14b
          try simp only [Act.put]
          have HB := Lib.hid (HA.out.below k3)
          have HH := Lib.hid hHeld.2.2.2
          clear hHeld
          have ST : ∀ (wq : World), Blk wq wb.heap.size 26 Z0 → (storeCells ⟨wb.heap.size, 0, none⟩ TC.toList).run Try.prog wq = .ok () (wq.setRow wb.heap.size TC) := fun wq hq => by
            have := run_storeCells_from (P := Try.prog) wb.heap.size 26 TC.toList 0 Z0 wq hq (by rw [Array.length_toList, BSZ.out, hzs]) (fun v hv => (Array.all_eq_true_iff_forall_mem.1 BON.out) v (by simpa using hv))
            simpa using this
          have ST2 := ST _ HB.out
          clear ST
          refine wpAnyH_ready (rs := [16]) (by kernel_rfl) (by simp) (AllReadyH.cons rfl (fun K' hK => ?_) AllReadyH.nil)
          have hts : TC.size = 260 := BSZ.out
          go_simp
          have HB2 := Lib.hid (Blk.row HB.out TC)
          have HH2 := Lib.hid (below_row HH.out (g := wb.heap.size) (Nat.le_refl _) TC)
          clear ST2
          refine hK.out _ _ (HS.out _ HH2.out) (fun hHeld => ?_)
          clear hK K' hHeld
          refine wpAnyH_done (by kernel_rfl) ?_ _
          go_wp2_with fail
          go_meet
          exact ⟨_, rfl, (Nat.le_refl _), HB2.out, HH2.out⟩
      case rest =>
        obtain ⟨g5, rfl, hg5, hblk, hw⟩ := hcut
        have OUT0 := Lib.hid (OutAt.start (B := g5 + 1) hblk (Nat.lt_succ_self _))
        have HG0 := Lib.hid hblk.lt
        have HW0 := Lib.hid hw
        clear hblk hw BH BSZ BON HS HL Z
        obtain ⟨c0, c1, cr, an, cn, at_, ct, c3, c4, hra, hta⟩ := HT.out.cells
        have HRA := Lib.hid hra
        have HTA := Lib.hid hta
        have C3 := Lib.hid c3
        have C4 := Lib.hid c4
        clear hra hta cr c0 c1 c3 c4
        obtain ⟨j0, hj, hj0, hj1, hj2⟩ := info_parts info_ints
        obtain ⟨i0, hi, hi0, hi1, hi2⟩ := info_parts info_int
        have HN := Lib.hid (show numberT T l = ⟨T.classes, place l T.start, T.remap, l.map fun s => (rowI T s).map (place l), l.map (tagI T)⟩ from rfl)
        have htbw : tb < wb.heap.size := by omega
        go_wp2_with fail
        go_loopw [11, 12, 14, 53, 65] (fun _ _ _ i _ wx => ∃ k : Nat, k ≤ l.length ∧ i = .int .i64 k ∧ OutAt wx (g5 + 1) g5 T.classes (place l T.start) T.remap ((l.take k).map fun s => (rowI T s).map (place l)) ((l.take k).map (tagI T)) ∧ Below wb.heap.size wb wx ∧ g5 < wx.heap.size) (fun _ _ _ i _ _ => l.length - (intOf i).toNat)
        case atStart => exact ⟨0, by omega, rfl, OUT0.out, HW0.out, HG0.out⟩
        case round =>
          clear OUT0 HW0 HG0
          obtain ⟨k, hk, rfl, hout, hw, hgl⟩ := hrel
          have HOUT := Lib.hid hout
          have HW := Lib.hid hw
          clear hout hw
          rename World => wo
          by_cases hlt : k < l.length
          · have t1 : decide (k < l.length) = true := by simpa
            obtain ⟨s0, s1⟩ := hin _ (List.getElem_mem hlt)
            obtain ⟨ob, oo, rfl, hob, ock⟩ := HV.out.at_ hlt
            have ock : wo.cell? ⟨ob, oo + k, none⟩ = some (.int .i64 l[k]) := (HW.out.cell (p := ⟨ob, _, none⟩) hob).trans ock
            have TK1 := Lib.hid (show ((l.take (k + 1)).map fun s => (rowI T s).map (place l)) = ((l.take k).map fun s => (rowI T s).map (place l)) ++ [(rowI T l[k]).map (place l)] from by rw [List.take_succ_eq_append_getElem hlt, List.map_append]; rfl)
            have TK2 := Lib.hid (show (l.take (k + 1)).map (tagI T) = (l.take k).map (tagI T) ++ [tagI T l[k]] from by rw [List.take_succ_eq_append_getElem hlt, List.map_append]; rfl)
            generalize l[k] = s at *
            obtain ⟨sn, rfl⟩ := Int.eq_ofNat_of_zero_le s0
            have hsn : sn < T.next.length := by omega
            have hst : sn < T.tag.length := by have := HP.out.nt; omega
            have HROW := Lib.hid (HP.out.row s0 s1)
            have HROW2 := Lib.hid (show T.next[sn]'hsn = rowI T sn from HROW.out.symm)
            have RL := Lib.hid (HP.out.rowLen s0 s1)
            have RG := Lib.hid (fun x hx => (HP.out.rowGoes (k := x) s0 s1 hx).2)
            have HTG := Lib.hid (show tagI T sn = T.tag[sn] from by unfold tagI; rw [show ((sn : Int)).toNat = sn from rfl, List.getD_eq_getElem?_getD, List.getElem?_eq_getElem hst]; rfl)
            obtain ⟨tg_b, toff, rfl, htb3, ctg⟩ := HTA.out.at_ hst
            rw [← HTG.out] at ctg
            obtain ⟨b, off, A, c, rfl, hb, crow, hri⟩ := HRA.out.at_ hsn
            rw [HROW2.out] at crow hri
            have HRI := Lib.hid hri
            have CTG := Lib.hid ctg
            have crow : wo.cell? ⟨b, off + sn, none⟩ = some (.slice A (rowI T sn).length c) := (HW.out.cell (p := ⟨b, _, none⟩) hb).trans crow
            have c3 : wo.cell? ⟨tb, 258, none⟩ = some (.slice (some ⟨b, off, none⟩) T.next.length cn) := (HW.out.cell (p := ⟨tb, _, none⟩) htbw).trans C3.out
            have hrl : (rowI T sn).length ≤ 256 := by have := RL.out; have := HP.out.c2; omega
            clear hri ctg HROW HTG HROW2
            generalize rowI T sn = row at *
            generalize tagI T sn = tg at *
            generalize hrs : ((l.take k).map fun s => (rowI T s).map (place l)) = rows at *
            generalize hts : (l.take k).map (tagI T) = tags at *
            have hrlen : rows.length ≤ 1000 := by rw [← hrs, List.length_map, List.length_take]; omega
            have htlen : tags.length ≤ 1000 := by rw [← hts, List.length_map, List.length_take]; omega
            clear hrs hts
            have BR := Lib.hid (Below.refl wo.heap.size wo)
            go_wp2_with fail
            clear ock crow c3
            go_loopw [12, 14, 65] (fun v _ j wx => ∃ q : Nat, q ≤ row.length ∧ j = .int .i64 q ∧ wx.ownsRow wo.heap.size 3 1 v ((row.take q).map (place l)).length (ints ((row.take q).map (place l))) ∧ Below wo.heap.size wo wx) (fun _ _ j _ => row.length - (intOf j).toNat)
            case atStart => exact ⟨0, by omega, rfl, World.ownsRow_nil _ _ _ _, BR.out⟩
            case round =>
              clear BR
              obtain ⟨q, hq, rfl, hown, hwi⟩ := hrel
              have HO := Lib.hid hown
              have HWI := Lib.hid hwi
              have hws : wo.heap.size ≤ wr.heap.size := hwi.size
              have hwb2 : wb.heap.size ≤ wo.heap.size := HW.out.size
              have HWB := Lib.hid (HW.out.trans (hwi.mono hwb2))
              clear hown hwi
              by_cases hlq : q < row.length
              · have t2 : decide (q < row.length) = true := by simpa
                obtain ⟨xb, xoff, rfl, hxb, cx⟩ := HRI.out.at_ hlq
                have cx : wr.cell? ⟨xb, xoff + q, none⟩ = some (.int .i64 row[q]) := (HWB.out.cell (p := ⟨xb, _, none⟩) hxb).trans cx
                have TQ := Lib.hid (show (row.take (q + 1)).map (place l) = (row.take q).map (place l) ++ [place l row[q]] from by rw [List.take_succ_eq_append_getElem hlq, List.map_append]; rfl)
                have PX := Lib.hid (TC.out row[q] (RG.out _ (List.getElem_mem hlq)) i5 ab wr (TOA.out.below HWB.out))
                generalize row[q] = x at *
                have hcl : ((row.take q).map (place l)).length ≤ 256 := by rw [List.length_map, List.length_take]; omega
                generalize (row.take q).map (place l) = cur at *
                go_wp2_with fail
                refine PX.out.mono ?_; rintro e x3 ⟨rfl, k3⟩
                have HO3 := Lib.hid (own_below HO.out k3)
                have HI3 := Lib.hid (HWI.out.trans (k3.mono hws))
                have hs3 : wo.heap.size ≤ x3.heap.size := HI3.out.size
                clear k3 cx
                generalize place l x = px at *
                go_wp2_with (at_builtin; refine wpList_push rfl (.tmp 69) (.tmp 73) rfl wo.heap.size cur px _ rfl HO3.out rfl (by omega) hs3 ?_; intro v' w2 hown2 hgrow hbelow; have HO4 := Lib.hid hown2; have HI4 := Lib.hid (HI3.out.trans hbelow); clear hown2 hgrow hbelow)
                go_roundw
                case rel => exact ⟨q + 1, by omega, by go_num, by rw [TQ.out]; exact HO4.out, HI4.out⟩
                case measure => simp [intOf]; omega
              · have t2 : decide (q < row.length) = false := by simpa using hlq
                have TA := Lib.hid (show (row.take q).map (place l) = row.map (place l) from by rw [List.take_of_length_le (by omega)])
                rw [TA.out] at HO

                obtain ⟨vn, vt, vs, h1, h2, h3, h4, h5, h6⟩ := HOUT.out
                have HO := Lib.hid (show wr.ownsRow wo.heap.size 3 1 u12 row.length (ints (row.map (place l))) from by have := HO.out; rwa [List.length_map] at this)
                obtain ⟨a7, c7, rfl, _⟩ := own_form HO.out
                have h8 : (Value.slice a7 row.length c7).ownBlock = none ∨ (Value.slice a7 row.length c7).ownBlock ≠ vt.ownBlock := by
                  cases hu : (Value.slice a7 row.length c7).ownBlock with
                  | none => exact .inl rfl
                  | some z => refine .inr fun e => ?_; have q1 := (HO.out.lt z hu).1; have q2 := (h4.lt z e.symm).2; omega
                have h1 := h1.below HWI.out
                have h3 := own_below h3 HWI.out
                have h4 := own_below h4 HWI.out
                have H6 := Lib.hid (fun i a b => And.intro (own_below (h6 i a b).1 HWI.out) (h6 i a b).2)
                have H7 := Lib.hid (show wr.ownsRow (g5 + 1) 3 1 (.slice a7 row.length c7) (row.map (place l)).length (ints (row.map (place l))) from by rw [List.length_map]; exact own_mono HO.out (show g5 + 1 ≤ wo.heap.size by omega))
                have e1 : wr.cell? ⟨g5, 258, none⟩ = some vn := (h1.cell 258).trans (tbCs_next H256.out)
                have H1 := Lib.hid h1
                have H3 := Lib.hid h3
                have H4 := Lib.hid h4
                have H8 := Lib.hid h8
                clear h6 h1 h3 h4 h8 TA
                go_wp2_with (at_builtin; refine wpList_grow rfl 23 24 (.tmp 77) (.tmp 79) rfl j0 (.slice none 0 0) 24 Try.underlying23 hj hj0 hj1 hj2 rfl (by decide) (g5 + 1) vs (.slice a7 row.length c7) rfl vn rows.length rfl H3.out rfl (by omega) (by omega) ?_; intro v5 w2 ho hgr hbel hwh; obtain ⟨a5, c5, rfl, _⟩ := own_form ho; have HO5 := Lib.hid ho; have HGR := Lib.hid hgr; have HBEL := Lib.hid hbel; clear ho hgr hbel hwh; have HB2 := H1.out.grown HGR.out (own_ne H3.out (Nat.lt_succ_self _)); have e2 : w2.cell? ⟨g5, 258, none⟩ = some vn := (HB2.cell 258).trans (tbCs_next H256.out); have f2 := HB2.free 258)
                have HOUT2 := Lib.hid (OutAt.pushRow H256.out H1.out (Nat.lt_succ_self _) H3.out H4.out h5 (fun i a b => H6.out i a b) H7.out H8.out HO5.out HGR.out)
                have HW2 := Lib.hid ((HWB.out.trans (HBEL.out.mono (by omega))).setCell (p := ⟨g5, 258, none⟩) hg5 (.slice a5 (rows.length + 1) c5))
                have HGL := Lib.hid (show g5 < (w2.setCell ⟨g5, 258, none⟩ (.slice a5 (rows.length + 1) c5)).heap.size from by have := HB2.lt; simpa using this)
                clear HB2 e1
                clear e2 f2
                generalize w2.setCell _ _ = w3 at *
                clear H1 H3 H4 H6 H7 H8 HWI HWB HOUT HW HO h5
                have DR := Lib.hid (show Below w3.heap.size w3 w3.drew from below_dr (Below.refl _ _))
                have HW3 := Lib.hid (below_dr HW2.out)
                have HGL3 : g5 < w3.drew.heap.size := HGL.out
                obtain ⟨vn, vt, vs, h1, h2, h3, h4, h5, h6⟩ := HOUT2.out.below DR.out
                obtain ⟨at7, ct7, rfl, _⟩ := own_form h4
                have ev : w3.drew.cell? ⟨g5, 259, none⟩ = some (.slice at7 tags.length ct7) := (h1.cell 259).trans (tbCs_tag H256.out)
                have H1 := Lib.hid h1
                have H3 := Lib.hid h3
                have H4 := Lib.hid h4
                have H6 := Lib.hid h6
                have EV := Lib.hid ev
                clear h1 h3 h4 h6 h2 HOUT2 HW2 HGL
                have HS := Lib.hid (show ∀ w', Below wb.heap.size wb w' → w'.cell? ⟨tb, 259, none⟩ = some (.slice (some ⟨tg_b, toff, none⟩) T.tag.length ct) ∧ w'.cell? ⟨tg_b, toff + sn, none⟩ = some (.int .i64 tg) ∧ Below wb.heap.size wb w' from fun w' kk => ⟨(kk.cell (p := ⟨tb, _, none⟩) htbw).trans C4.out, (kk.cell (p := ⟨tg_b, _, none⟩) htb3).trans CTG.out, kk⟩)
                refine wp_region_held_drew (S := fun w' => w'.cell? ⟨tb, 259, none⟩ = some (.slice (some ⟨tg_b, toff, none⟩) T.tag.length ct) ∧ w'.cell? ⟨tg_b, toff + sn, none⟩ = some (.int .i64 tg) ∧ Below wb.heap.size wb w') (by kernel_rfl) (HS.out _ HW3.out) (fun hHeld => ?_)
                clear ev
                refine' wpAnyH_take (i := 0) (v := _) rfl (by kernel_rfl) (by kernel_rfl) (by kernel_rfl) (fun _ _ _ h => h) (Or.inl ⟨by rfl, ?hy0t⟩) (by assumption) ?r0t
                case hy0t => (intro w hSw; (try dsimp only at hSw); go_simp; with_reducible rfl)
                try simp only [Act.put]
                refine' wpAnyH_take (i := 2) (v := _) rfl (by kernel_rfl) (by kernel_rfl) (by kernel_rfl) (fun _ _ _ h => h) (Or.inl ⟨by rfl, ?hy2t⟩) (by assumption) ?r2t
                case hy2t => (intro w hSw; (try dsimp only at hSw); go_simp; with_reducible rfl)
                try simp only [Act.put]
                refine' wpAnyH_take (i := 3) (v := _) rfl (by kernel_rfl) (by kernel_rfl) (by kernel_rfl) (fun _ _ _ h => h) (Or.inl ⟨by rfl, ?hy3t⟩) (by assumption) ?r3t
                case hy3t => (intro w hSw; (try dsimp only at hSw); go_simp; with_reducible rfl)
                try simp only [Act.put]
                refine' wpAnyH_take (i := 4) (v := _) rfl (by kernel_rfl) (by kernel_rfl) (by kernel_rfl) (fun _ _ _ h => h) (Or.inl ⟨by rfl, ?hy4t⟩) (by assumption) ?r4t
                case hy4t => (intro w hSw; (try dsimp only at hSw); go_simp; with_reducible rfl)
                try simp only [Act.put]
                refine' wpAnyH_take (i := 5) (v := _) rfl (by kernel_rfl) (by kernel_rfl) (by kernel_rfl) (fun _ _ _ h => h) (Or.inl ⟨by rfl, ?hy5t⟩) (by assumption) ?r5t
                case hy5t => (intro w hSw; (try dsimp only at hSw); go_simp; with_reducible rfl)
                try simp only [Act.put]
                refine' wpAnyH_take (i := 6) (v := _) rfl (by kernel_rfl) (by kernel_rfl) (by kernel_rfl) (fun _ _ _ h => h) (Or.inl ⟨by rfl, ?hy6t⟩) (by assumption) ?r6t
                case hy6t => (intro w hSw; (try dsimp only at hSw); go_simp; with_reducible rfl)
                try simp only [Act.put]
                refine' wpAnyH_take (i := 7) (v := _) rfl (by kernel_rfl) (by kernel_rfl) (by kernel_rfl) (fun _ _ _ h => h) (Or.inl ⟨by rfl, ?hy7t⟩) (by assumption) ?r7t
                case hy7t => (intro w hSw; (try dsimp only at hSw); go_simp; with_reducible rfl)
                try simp only [Act.put]
                refine' wpAnyH_take (i := 8) (v := _) rfl (by kernel_rfl) (by kernel_rfl) (by kernel_rfl) (fun _ _ _ h => h) (Or.inl ⟨by rfl, ?hy8t⟩) (by assumption) ?r8t
                case hy8t => (intro w hSw; (try dsimp only at hSw); go_simp; with_reducible rfl)
                try simp only [Act.put]
                have EA := Lib.hid (show ∀ o, (w3.alloc o).cell? ⟨g5, 259, none⟩ = some (.slice at7 tags.length ct7) from fun o => (World.cell?_alloc_lt _ _ _ HGL3).trans EV.out)
                refine wpAnyH_ready (rs := [1, 9]) (by kernel_rfl) (by simp) (AllReadyH.cons rfl (fun K' hK => ?_) (AllReadyH.cons rfl (fun K' hK => ?_) AllReadyH.nil))
                · have ev := EV.out
                  go_simp
                  refine hK.out _ _ (HS.out _ HW3.out) (fun hHeld => ?_)
                  clear hK K' ev
                  refine wpAnyH_ready (rs := [9]) (by kernel_rfl) (by simp) (AllReadyH.cons rfl (fun K' hK => ?_) AllReadyH.nil)
                  go_simp
                  refine hK.out _ _ (HS.out _ (HW3.out.trans ((below_alloc (Below.refl _ _) _).mono HW3.out.size))) (fun hHeld => ?_)
                  clear hK K'
                  refine wpAnyH_ready (rs := [10]) (by kernel_rfl) (by simp) (AllReadyH.cons rfl (fun K' hK => ?_) AllReadyH.nil)
                  rw [if_pos (by rfl)]
                  refine wp_grow (w := w3.drew) 24 3 (.tmp 83) (.tmp 91) rfl i0 (.int .i64 0) 8 Try.underlying24 hi hi0 hi1 hi2 rfl (by decide) (g5 + 1) (ints tags) (.int .i64 tg) rfl _ tags.length rfl H4.out rfl (by omega) (Nat.succ_le_of_lt HGL3) ?_
                  intro v' w4 ho hgr hbel hwh
                  obtain ⟨a6, c6, rfl, _⟩ := own_form ho
                  have HB4 := H1.out.grown hgr (own_ne H4.out (Nat.lt_succ_self _))
                  have e4 : w4.cell? ⟨g5, 259, none⟩ = some (.slice at7 tags.length ct7) := (HB4.cell 259).trans (tbCs_tag H256.out)
                  have f4 := HB4.free 259
                  have K4 := Lib.hid (HW3.out.trans (hbel.mono (by omega)))
                  have HOUT4 := Lib.hid (OutAt.pushTag (x := tg) H256.out H1.out (Nat.lt_succ_self _) H3.out H4.out h5 (fun i a b => H6.out i a b) ho hgr hwh)
                  have HW4 := Lib.hid (K4.out.setCell (p := ⟨g5, 259, none⟩) hg5 (.slice a6 (tags.length + 1) c6))
                  have HGL4 := Lib.hid (show g5 < (w4.setCell ⟨g5, 259, none⟩ (.slice a6 (tags.length + 1) c6)).heap.size from by have := HB4.lt; simpa using this)
                  clear ho hgr hbel hwh HB4
                  refine hK.out _ _ (HS.out _ K4.out) (fun hHeld => ?_)
                  clear hK K'
                  refine wpAnyH_ready (rs := [11]) (by kernel_rfl) (by simp) (AllReadyH.cons rfl (fun K' hK => ?_) AllReadyH.nil)
                  go_simp
                  refine hK.out _ _ (HS.out _ K4.out) (fun hHeld => ?_)
                  clear hK K'
                  refine wpAnyH_ready (rs := [12]) (by kernel_rfl) (by simp) (AllReadyH.cons rfl (fun K' hK => ?_) AllReadyH.nil)
                  go_simp
                  refine hK.out _ _ (HS.out _ HW4.out) (fun hHeld => ?_)
                  clear hK K' hHeld e4 f4
                  refine wpAnyH_done (by kernel_rfl) ?_ _
                  go_wp2_with fail
                  go_roundw
                  case rel => exact ⟨k + 1, by omega, by go_num, by rw [TK1.out, TK2.out]; exact HOUT4.out, HW4.out, HGL4.out⟩
                  case measure => simp [intOf]; omega
                · go_simp
                  refine hK.out _ _ (HS.out _ (HW3.out.trans ((below_alloc (Below.refl _ _) _).mono HW3.out.size))) (fun hHeld => ?_)
                  clear hK K'
                  have ev := EA.out (.cells #[.int .i64 tg] 3)
                  refine wpAnyH_ready (rs := [1]) (by kernel_rfl) (by simp) (AllReadyH.cons rfl (fun K' hK => ?_) AllReadyH.nil)
                  go_simp
                  refine hK.out _ _ (HS.out _ (HW3.out.trans ((below_alloc (Below.refl _ _) _).mono HW3.out.size))) (fun hHeld => ?_)
                  clear hK K' ev
                  refine wpAnyH_ready (rs := [10]) (by kernel_rfl) (by simp) (AllReadyH.cons rfl (fun K' hK => ?_) AllReadyH.nil)
                  rw [if_pos (by rfl)]
                  refine wp_grow (w := w3.drew) 24 3 (.tmp 83) (.tmp 91) rfl i0 (.int .i64 0) 8 Try.underlying24 hi hi0 hi1 hi2 rfl (by decide) (g5 + 1) (ints tags) (.int .i64 tg) rfl _ tags.length rfl H4.out rfl (by omega) (Nat.succ_le_of_lt HGL3) ?_
                  intro v' w4 ho hgr hbel hwh
                  obtain ⟨a6, c6, rfl, _⟩ := own_form ho
                  have HB4 := H1.out.grown hgr (own_ne H4.out (Nat.lt_succ_self _))
                  have e4 : w4.cell? ⟨g5, 259, none⟩ = some (.slice at7 tags.length ct7) := (HB4.cell 259).trans (tbCs_tag H256.out)
                  have f4 := HB4.free 259
                  have K4 := Lib.hid (HW3.out.trans (hbel.mono (by omega)))
                  have HOUT4 := Lib.hid (OutAt.pushTag (x := tg) H256.out H1.out (Nat.lt_succ_self _) H3.out H4.out h5 (fun i a b => H6.out i a b) ho hgr hwh)
                  have HW4 := Lib.hid (K4.out.setCell (p := ⟨g5, 259, none⟩) hg5 (.slice a6 (tags.length + 1) c6))
                  have HGL4 := Lib.hid (show g5 < (w4.setCell ⟨g5, 259, none⟩ (.slice a6 (tags.length + 1) c6)).heap.size from by have := HB4.lt; simpa using this)
                  clear ho hgr hbel hwh HB4
                  refine hK.out _ _ (HS.out _ K4.out) (fun hHeld => ?_)
                  clear hK K'
                  refine wpAnyH_ready (rs := [11]) (by kernel_rfl) (by simp) (AllReadyH.cons rfl (fun K' hK => ?_) AllReadyH.nil)
                  go_simp
                  refine hK.out _ _ (HS.out _ K4.out) (fun hHeld => ?_)
                  clear hK K'
                  refine wpAnyH_ready (rs := [12]) (by kernel_rfl) (by simp) (AllReadyH.cons rfl (fun K' hK => ?_) AllReadyH.nil)
                  go_simp
                  refine hK.out _ _ (HS.out _ HW4.out) (fun hHeld => ?_)
                  clear hK K' hHeld e4 f4
                  refine wpAnyH_done (by kernel_rfl) ?_ _
                  go_wp2_with fail
                  go_roundw
                  case rel => exact ⟨k + 1, by omega, by go_num, by rw [TK1.out, TK2.out]; exact HOUT4.out, HW4.out, HGL4.out⟩
                  case measure => simp [intOf]; omega
          · have t1 : decide (k < l.length) = false := by simpa using hlt
            rw [show l.take k = l from List.take_of_length_le (by omega)] at HOUT
            obtain ⟨tu, hb5, htu⟩ := HOUT.out.tab H256.out hby.out
            have htz := htu.size
            have HTU := Lib.hid htu
            have RGE := Lib.hid (Blk.range hb5)
            have SL := Lib.hid (show (Try.prog.info? 26).map (·.size) = some tu.toList.length from by rw [Array.length_toList, htz]; exact info_tab)
            have HR := R0.out.below HW.out
            have ON := Lib.hid (TbR.one htu)
            have ST : (storeCells ⟨rb, 0, none⟩ tu.toList).run Try.prog wo = .ok () (wo.setRow rb tu) := by
              have := run_storeCells_from (P := Try.prog) rb 26 tu.toList 0 Z0 wo HR (by rw [Array.length_toList, htz, hzs]) (fun v hv => (Array.all_eq_true_iff_forall_mem.1 ON.out) v (by simpa using hv))
              simpa using this
            have HR2 := Lib.hid (Blk.row HR tu)
            have HW2 := Lib.hid (below_row (W3.out.trans (HW.out.mono (show rb ≤ wb.heap.size by omega))) (Nat.le_refl rb) tu)
            have HTR := Lib.hid (show TbR (wo.setRow rb tu) tu (numberT T l) from by
              rw [HN.out]
              obtain ⟨tu2, x1, _, x3⟩ := HOUT.out.tabFar H256.out hby.out (show rb < g5 by omega) tu
              have e : tu = tu2 := by
                unfold Blk at x1 hb5
                rw [x1] at hb5
                injection hb5 with hb5
                injection hb5 with e; exact e.symm
              rw [← e] at x3; exact x3)
            have HTF := Lib.hid (show ∀ k cs, k < w.heap.size → TbR ((wo.setRow rb tu).setRow k cs) tu (numberT T l) from fun k cs hk => by rw [HN.out]; exact HOUT.out.tabFar2 H256.out hby.out hb5 (show rb < g5 by omega) (show k < g5 by omega) tu cs)
            have HFR := Lib.hid (show Fresh (w.heap.size + 1) (wo.setRow rb tu) tu (numberT T l) from by rw [HN.out]; exact (HOUT.out.row (show rb < g5 by omega) tu).fresh H256.out hby.out (hb5.rowFar (k := rb) (by omega) tu) (show w.heap.size + 1 ≤ g5 by omega))
            have LD := run_loadVar_row (P := Try.prog) _ rb 26 26 tu (0, 0) _ HR2.out Try.underlying26 rfl (by rw [htz]; exact info_tab)
            clear hb5 htu HR HOUT
            go_wp2_with (refine wpList_load_mid rfl 26 _ rfl g5 0 rfl tu.toList _ RGE.out Try.underlying26 rfl SL.out ?_; rw [Array.toArray_toList])
            go_wp2_with fail
            exact bodyPost_ret (v := .agg tu) (by simp [results, Try.results27, asAddr, LD]) rfl ⟨⟨tu, rfl, HTR.out, HTF.out, HFR.out⟩, by rw [hrb]; exact HW2.out⟩
end Go.Proofs.Ytafcnehinanecaa
