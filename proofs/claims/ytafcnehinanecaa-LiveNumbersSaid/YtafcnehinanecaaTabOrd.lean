/- The reference's Order. -/
import Derived.Test.YtafcnehinanecaaTabPush
namespace Go.Proofs.Ytafcnehinanecaa
open Go.RowKit
attribute [local irreducible] Calls
set_option maxHeartbeats 4000000 in
set_option maxRecDepth 100000 in
theorem rorder_c (tv : Array Value) (T : Tb) (p : RightP T) (l : List Int) (v : Value) (hl : l.length ≤ 1000000) (only : Bool) (may : Int → Bool) (hmay : ∀ k, may k = (!only || l.any (· == k))) (w : World) (h : TbR w tv T) (hv : IntsAt w 0 v l) :
    Calls Try.prog 19 #[.agg tv, v, .bool only] w fun e w' => (∃ v', e = .returned v' ∧ w'.ownsRow w.heap.size 3 1 v' (order T may).length (ints (order T may))) ∧ Below w.heap.size w w' := by
  have K0 := below_alloc (Below.refl w.heap.size w) (.cells tv 26)
  have W0 := Lib.hid K0
  have HT := Lib.hid h.boxed
  have HV := Lib.hid (hv.below K0)
  have HP := Lib.hid p
  have HM := Lib.hid hmay
  have RH := Lib.hid (fun (l : List Int) (hl : l.length ≤ 1000000) x base v w h => rhas_c l x hl base v w h)
  have hn3 : T.next.length ≤ 300 := p.n3
  have hc2 : T.classes ≤ 256 := p.c2
  obtain ⟨c0, c1, cr, an, cn, at_, ct, c3, c4, hra, hta⟩ := HT.out.cells
  clear h hv p hmay K0 cr hra hta c0 c3 c4
  go_enter Try.func19, Try.ntmps19
  go_upto_region 1 with fail
  generalize hwb : w.alloc _ = wb at *
  have hsz : w.heap.size < wb.heap.size := by rw [← hwb, World.size_alloc]; omega
  clear hwb
  have HW := Lib.hid (Below.refl wb.heap.size wb)
  go_upto_region 2 with fail
  go_cut [23] from 11 to 23 (fun v wx => v = .bool (decide (0 ≤ T.start) && may T.start) ∧ wx = wb)
  case first =>
    by_cases h1 : 0 ≤ T.start
    · have t1 : decide (0 ≤ T.start) = true := by simpa
      cases only with
      | false =>
        have HX := Lib.hid (show (decide (0 ≤ T.start) && may T.start) = true from by rw [HM.out, t1]; rfl)
        go_wp2_with fail
        go_meet
        exact ⟨by rw [HX.out], rfl⟩
      | true =>
        have HX := Lib.hid (show (decide (0 ≤ T.start) && may T.start) = l.any (· == T.start) from by rw [HM.out, t1]; rfl)
        have RX := Lib.hid (RH.out l hl T.start 0 v wb HV.out)
        go_wp2_with fail
        refine RX.out.mono ?_; rintro e w1 ⟨rfl, rfl⟩
        generalize l.any (· == T.start) = b at *
        go_wp2_with fail
        go_meet
        exact ⟨by rw [HX.out], rfl⟩
    · have t1 : decide (0 ≤ T.start) = false := by simpa using h1
      have HX := Lib.hid (show (decide (0 ≤ T.start) && may T.start) = false from by rw [t1]; rfl)
      go_wp2_with fail
      go_meet
      exact ⟨by rw [HX.out], rfl⟩
  case rest =>
    obtain ⟨rfl, hwc⟩ := hcut
    subst hwc
    rename World => wb
    have M0 := Lib.hid (show metN T may 0 = if decide (0 ≤ T.start) && may T.start then [T.start] else [] from by rw [metN])
    generalize (decide (0 ≤ T.start) && may T.start) = b at *
    go_upto_if 23 with fail
    go_cut [7] from 24 to 28 (fun v wx => wx.ownsRow wb.heap.size 3 1 v (metN T may 0).length (ints (metN T may 0)) ∧ Below wb.heap.size wb wx)
    case first =>
      cases b with
      | true =>
        have ME := Lib.hid (show metN T may 0 = [T.start] from by have := M0.out; rwa [if_pos rfl] at this)
        clear M0
        go_wp2_with (at_builtin; refine wpList_push rfl _ _ rfl wb.heap.size [] T.start _ rfl (World.ownsRow_nil _ _ _ _) rfl (by simp) (by omega) ?_; intro v' w2 hown2 hgrow hbelow)
        go_meet
        exact ⟨by rw [ME.out]; exact hown2, hbelow⟩
      | false =>
        have ME := Lib.hid (show metN T may 0 = [] from by have := M0.out; rwa [if_neg (by simp)] at this)
        clear M0
        go_wp2_with fail
        go_meet
        exact ⟨by rw [ME.out]; exact World.ownsRow_nil _ _ _ _, HW.out⟩
    case rest =>
      clear HW M0
      obtain ⟨hown, hw⟩ := hcut
      have HO := Lib.hid hown
      have HW := Lib.hid hw
      clear hown hw c1
      go_wp2_with fail
      go_loopw [7, 8, 9, 10] (fun v i _ _ wx => ∃ k : Nat, k ≤ (metN T may k).length ∧ i = .int .i64 k ∧ wx.ownsRow wb.heap.size 3 1 v (metN T may k).length (ints (metN T may k)) ∧ Below wb.heap.size wb wx) (fun _ i _ _ _ => T.next.length + 1 - (intOf i).toNat)
      case atStart => exact ⟨0, by omega, rfl, HO.out, HW.out⟩
      case round =>
        clear HO HW
        obtain ⟨k, hk, rfl, hown, hw⟩ := hrel
        have HO := Lib.hid hown
        have HW := Lib.hid hw
        have HME := Lib.hid (HP.out.meets may k)
        have hsm := HME.out.small
        obtain ⟨ao, cap, rfl, _⟩ := IntsAt.own hown
        by_cases hlt : k < (metN T may k).length
        · have t1 : decide (k < (metN T may k).length) = true := by simpa
          have HST := Lib.hid (metN_step hlt)
          have HGR := Lib.hid (metN_grow hlt)
          obtain ⟨s0, s1, _⟩ := HME.out.2 _ (List.getElem_mem hlt)
          have HS := Lib.hid (And.intro s0 s1)
          have HROW := Lib.hid (HP.out.row s0 s1)
          have RL := Lib.hid (HP.out.rowLen s0 s1)
          have RG := Lib.hid (fun x hx => (HP.out.rowGoes (k := x) s0 s1 hx).2)
          have OS := Lib.hid (show ∀ (cur : List Int) (hp : metN T may k <+: cur), cur[k]? = some (metN T may k)[k] from fun cur hp => by obtain ⟨t, rfl⟩ := hp; rw [List.getElem?_append_left hlt, List.getElem?_eq_getElem hlt])
          generalize hout : metN T may k = out at *
          have HOUT := Lib.hid hout
          clear hout hown hw
          generalize out[k] = s at *
          obtain ⟨sn, rfl⟩ := Int.eq_ofNat_of_zero_le s0
          have hsn : sn < T.next.length := by omega
          have HROW2 := Lib.hid (show T.next[sn]'hsn = rowI T sn from HROW.out.symm)
          generalize rowI T sn = row at *
          have hrl : row.length ≤ 256 := by have := RL.out; omega
          go_wp2_with fail
          go_loopw [7, 9, 10] (fun v c _ wx => ∃ q : Nat, q ≤ row.length ∧ c = .int .i64 q ∧ wx.ownsRow wb.heap.size 3 1 v (addRow may out (row.take q)).length (ints (addRow may out (row.take q))) ∧ Below wb.heap.size wb wx) (fun _ c _ _ => row.length - (intOf c).toNat)
          case atStart => exact ⟨0, by omega, rfl, HO.out, HW.out⟩
          case round =>
            clear HO HW
            obtain ⟨q, hq, rfl, hown, hw⟩ := hrel
            have HO := Lib.hid hown
            have HW := Lib.hid hw
            have HMC := Lib.hid (HME.out.addRow (row := row.take q) fun x hx => RG.out x (List.mem_of_mem_take hx))
            have OSQ := Lib.hid (OS.out _ (addRow_prefix may (row.take q) out))
            have HNX := Lib.hid (fun h => addRow_take (may := may) (out := out) (row := row) (c := q) h)
            have HAL := Lib.hid (show row.length ≤ q → addRow may out (row.take q) = addRow may out row from fun h => by rw [List.take_of_length_le h])
            generalize addRow may out (row.take q) = cur at *
            have hcs := HMC.out.small
            obtain ⟨c0, c1, cr, an, cn, at_, ct, c3, c4, hra, hta⟩ := (HT.out.below hw).cells
            clear cr hta c1 c4
            by_cases hlq : q < row.length
            · have t1 : decide ((q : Int) < T.classes) = true := by have := RL.out; simp; omega
              have hkc : k < cur.length := (List.getElem?_eq_some_iff.1 OSQ.out).1
              have HKC := Lib.hid (show cur[k] = (sn : Int) from (List.getElem?_eq_some_iff.1 OSQ.out).2)
              obtain ⟨oc, occ, rfl, _⟩ := id (IntsAt.own hown)
              obtain ⟨ob, oo, rfl, hob, ock⟩ := (IntsAt.own hown).at_ hkc
              rw [HKC.out] at ock
              obtain ⟨b, off, A, c, rfl, hb, crow, hri⟩ := hra.at_ hsn
              rw [HROW2.out] at crow hri
              obtain ⟨rb, roff, rfl, hrb, cx⟩ := hri.at_ hlq
              have HQ := Lib.hid (HNX.out hlq)
              have RGX := Lib.hid (RG.out _ (List.getElem_mem hlq))
              clear hra hri hown HNX HAL
              generalize row[q] = x at *
              by_cases hx0 : 0 ≤ x
              · have t2 : decide (0 ≤ x) = true := by simpa
                have RX := Lib.hid (fun w1 h => RH.out cur (by omega) x 0 (.slice (some ⟨ob, oo, none⟩) cur.length occ) w1 h)
                have RL2 := Lib.hid (fun w1 h => RH.out l hl x 0 v w1 h)
                go_wp2_with fail
                go_quiet (fail)
                go_wp2_with fail
                refine (RX.out _ (((IntsAt.own HO.out).mono (Nat.zero_le _)).below (below_dn (Below.refl _ _) _))).mono ?_; rintro e w1 ⟨rfl, rfl⟩
                have HO1 := Lib.hid (own_below HO.out (below_dn (Below.refl wr.heap.size wr) nq))
                have HW1 := Lib.hid (below_dn HW.out nq)
                have HV1 := Lib.hid (HV.out.below HW1.out)
                have hsw : wb.heap.size ≤ (wr.drewN nq).heap.size := HW1.out.size
                clear HO HW RX c0 c3 crow cx ock
                generalize wr.drewN nq = wy at *
                have MX := Lib.hid (HM.out x)
                cases hb : cur.any (· == x) with
                | true =>
                  have HQ2 := Lib.hid (HQ.out.trans (addIf_in hb))
                  clear hb
                  go_wp2_with fail
                  go_roundw
                  case rel => exact ⟨q + 1, by omega, by go_num, by rw [HQ2.out]; exact HO1.out, HW1.out⟩
                  case measure => simp [intOf]; omega
                | false =>
                  have HB := Lib.hid hb
                  clear hb
                  cases only with
                  | false =>
                    have HQ2 := Lib.hid (HQ.out.trans (addIf_yes hx0 (MX.out.trans rfl) HB.out))
                    go_wp2_with (at_builtin; refine wpList_push rfl (.tmp 69) (.tmp 71) rfl wb.heap.size cur x (.slice (some ⟨ob, oo, none⟩) cur.length occ) rfl HO1.out rfl (by omega) hsw ?_; intro v' w2 hown2 hgrow hbelow)
                    have HO2 := Lib.hid hown2
                    have HW2 := Lib.hid (HW1.out.trans hbelow)
                    clear hown2 hgrow hbelow
                    go_wp2_with fail
                    go_roundw
                    case rel => exact ⟨q + 1, by omega, by go_num, by rw [HQ2.out]; exact HO2.out, HW2.out⟩
                    case measure => simp [intOf]; omega
                  | true =>
                    go_wp2_with fail
                    refine (RL2.out _ HV1.out).mono ?_; rintro e w1 ⟨rfl, rfl⟩
                    cases hl2 : l.any (· == x) with
                    | true =>
                      have HQ2 := Lib.hid (HQ.out.trans (addIf_yes hx0 (MX.out.trans (by rw [hl2]; rfl)) HB.out))
                      clear hl2
                      go_wp2_with (at_builtin; refine wpList_push rfl (.tmp 69) (.tmp 71) rfl wb.heap.size cur x (.slice (some ⟨ob, oo, none⟩) cur.length occ) rfl HO1.out rfl (by omega) hsw ?_; intro v' w2 hown2 hgrow hbelow)
                      have HO2 := Lib.hid hown2
                      have HW2 := Lib.hid (HW1.out.trans hbelow)
                      clear hown2 hgrow hbelow
                      go_wp2_with fail
                      go_roundw
                      case rel => exact ⟨q + 1, by omega, by go_num, by rw [HQ2.out]; exact HO2.out, HW2.out⟩
                      case measure => simp [intOf]; omega
                    | false =>
                      have HQ2 := Lib.hid (HQ.out.trans (addIf_out (MX.out.trans (by rw [hl2]; rfl))))
                      clear hl2
                      go_wp2_with fail
                      go_roundw
                      case rel => exact ⟨q + 1, by omega, by go_num, by rw [HQ2.out]; exact HO1.out, HW1.out⟩
                      case measure => simp [intOf]; omega
              · have t2 : decide (0 ≤ x) = false := by simpa using hx0
                have HQ2 := Lib.hid (HQ.out.trans (addIf_low hx0))
                go_wp2_with fail
                go_quiet (fail)
                go_wp2_with fail
                go_roundw
                case rel => exact ⟨q + 1, by omega, by go_num, by rw [HQ2.out]; exact own_below HO.out (below_dn (Below.refl _ _) _), below_dn HW.out _⟩
                case measure => simp [intOf]; omega
            · have t1 : decide ((q : Int) < T.classes) = false := by have := RL.out; simp; omega
              have HE := Lib.hid (show cur = metN T may (k + 1) from (HAL.out (by omega)).trans HST.out.symm)
              clear hown hra
              go_wp2_with fail
              go_roundw
              case rel => exact ⟨k + 1, HGR.out, by go_num, by rw [← HE.out]; exact HO.out, HW.out⟩
              case measure => simp [intOf]; omega
        · have t1 : decide (k < (metN T may k).length) = false := by simpa using hlt
          have HX := Lib.hid (HP.out.orderEnd (show k = (metN T may k).length by omega))
          clear hown
          go_wp2_with fail
          go_returns
          exact ⟨⟨_, rfl, by rw [← HX.out]; exact own_mono HO.out (by omega)⟩, below_step W0.out HW.out⟩
end Go.Proofs.Ytafcnehinanecaa
