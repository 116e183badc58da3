/- The reference's Useful. -/
import Derived.Test.YtafcnehinanecaaTabLive
namespace Go.Proofs.Ytafcnehinanecaa
open Go.RowKit
attribute [local irreducible] Calls
set_option maxHeartbeats 8000000 in
set_option maxRecDepth 100000 in
theorem ruseful_c (tv : Array Value) (T : Tb) (p : RightP T) (w : World) (h : TbR w tv T) :
    Calls Try.prog 18 #[.agg tv] w fun e w' => (∃ v', e = .returned v' ∧ w'.ownsRow w.heap.size 3 1 v' (usefulL T).length (ints (usefulL T))) ∧ Below w.heap.size w w' := by
  have K0 := below_alloc (Below.refl w.heap.size w) (.cells tv 26)
  have W0 := Lib.hid K0
  have HT := Lib.hid h.boxed
  have HP := Lib.hid p
  have hn3 : T.next.length ≤ 300 := p.n3
  have hmk := run_make_bools T.next.length (by omega)
  obtain ⟨c0, c1, cr, an, cn, at_, ct, c3, c4, hra, hta⟩ := HT.out.cells
  clear h p K0 cr hra hta c0 c1 c4
  go_enter Try.func18, Try.ntmps18
  go_upto_region 1 with fail
  generalize hwb : w.alloc _ = wb at *
  have hsz : w.heap.size < wb.heap.size := by rw [← hwb, World.size_alloc]; omega
  clear hwb
  go_upto_region 2 with fail
  clear hmk c3
  have Z0 := Lib.hid (Blk.made wb 4 (bools (List.replicate T.next.length false)))
  have HW := Lib.hid (below_alloc (Below.refl wb.heap.size wb) (.cells (bools (List.replicate T.next.length false)) 4))
  generalize hwa : wb.alloc _ = wa at *
  have hsa : wb.heap.size < wa.heap.size := by rw [← hwa, World.size_alloc]; omega
  clear hwa
  have S0 := Lib.hid (sound_start T)
  generalize List.replicate T.next.length false = l0 at *
  go_wp2_with fail
  go_loopg [4, 5, 6, 7, 8] (2 * l0.count false + 1) (fun gg v4 _ _ _ _ wx => ∃ (l : List Bool) (again : Bool), v4 = .bool again ∧ 2 * l.count false + (if again then 1 else 0) ≤ gg ∧ SoundL T l ∧ (again = false → ∀ i, i < T.next.length → condB T l i = true → l.getD i false = true) ∧ Blk wx wb.heap.size 4 (bools l) ∧ Below wb.heap.size wb wx)
  case atStart => exact ⟨l0, true, rfl, by simp, S0.out, fun h => (nomatch h), Z0.out, HW.out⟩
  case round =>
    clear Z0 HW S0
    obtain ⟨l, again, rfl, hgg, hs, hcl, hb, hw⟩ := hrel
    have HS := Lib.hid hs
    have HW := Lib.hid hw
    have HB := Lib.hid hb
    have HC := Lib.hid hcl
    have HLL := Lib.hid hs.1
    clear hs hcl
    cases again with
    | true =>
      have hgg2 : 2 * l.count false + 1 ≤ gk := by simpa using hgg
      clear hgg
      have I0 := Lib.hid (show ∀ i, i < 0 → i < T.next.length → condB T l i = true → l.getD i false = true from fun i hi => by omega)
      clear hw hb
      go_wp2_with fail
      go_loopw [4, 5, 6, 7, 8] (fun v4 v5 _ _ _ wx => ∃ (i : Nat) (m : List Bool) (ag : Bool), i ≤ T.next.length ∧ v5 = .int .i64 i ∧ v4 = .bool ag ∧ SoundL T m ∧ (ag = false → m = l ∧ ∀ j, j < i → j < T.next.length → condB T l j = true → l.getD j false = true) ∧ (ag = true → m.count false < l.count false) ∧ Blk wx wb.heap.size 4 (bools m) ∧ Below wb.heap.size wb wx) (fun _ v5 _ _ _ _ => T.next.length - (intOf v5).toNat)
      case atStart => exact ⟨0, l, false, by omega, rfl, rfl, HS.out, fun _ => ⟨rfl, I0.out⟩, fun h => (nomatch h), HB.out, HW.out⟩
      case round =>
        clear HS HW HB HC I0
        obtain ⟨i, m, ag, hi, rfl, rfl, hs, h1, h2, hb, hw⟩ := hrel
        have HS := Lib.hid hs
        have HW := Lib.hid hw
        have HB := Lib.hid hb
        have H1 := Lib.hid h1
        have H2 := Lib.hid h2
        have HML := Lib.hid hs.1
        clear hs h1 h2
        by_cases hlt : i < T.next.length
        · have t1 : decide (i < T.next.length) = true := by simpa
          have t1b : decide (i < m.length) = true := by rw [HML.out]; simpa
          obtain ⟨d0, d1, dr, an, cn, at_, ct, d3, d4, hra, hta⟩ := (HT.out.below hw).cells
          have cb := (hb.cell i).trans (bools_at (show i < m.length by rw [HML.out]; exact hlt))
          have FB := Lib.hid (hb.free i)
          clear dr
          cases hmi : m.getD i false with
          | true =>
            have HX := Lib.hid (show ag = false → m = l ∧ ∀ j, j < i + 1 → j < T.next.length → condB T l j = true → l.getD j false = true from fun h => by
              obtain ⟨e, hh⟩ := H1.out h
              refine ⟨e, fun j hj hjn hjc => ?_⟩
              by_cases ej : j = i
              · subst ej; rw [← e]; exact hmi
              · exact hh j (by omega) hjn hjc)
            rw [hmi] at cb
            clear hmi hra hta hb hw
            go_wp2_with fail
            go_roundw
            case rel => exact ⟨i + 1, m, ag, by omega, by go_num, rfl, HS.out, HX.out, H2.out, HB.out, HW.out⟩
            case measure => simp [intOf]; omega
          | false =>
            have HMI := Lib.hid hmi
            have hlt2 : i < T.tag.length := by have := HP.out.nt; omega
            obtain ⟨tb, toff, rfl, htb, ctg⟩ := hta.at_ hlt2
            have HTG := Lib.hid (show tagI T i = T.tag[i] from by unfold tagI; rw [show ((i : Int)).toNat = i from rfl, List.getD_eq_getElem?_getD, List.getElem?_eq_getElem hlt2]; rfl)
            have HROW := Lib.hid (HP.out.row (s := (i : Int)) (by omega) (by omega))
            have RL := Lib.hid (HP.out.rowLen (s := (i : Int)) (by omega) (by omega))
            have RG := Lib.hid (fun x hx => (HP.out.rowGoes (s := (i : Int)) (k := x) (by omega) (by omega) hx))
            have CB := Lib.hid (show condB T m i = (decide (0 ≤ tagI T i) || (rowI T i).any (hasB m)) from rfl)
            have CL := Lib.hid (fun h => condB_live HS.out hlt h)
            rw [hmi] at cb
            rw [← HTG.out] at ctg
            have HROW2 := Lib.hid (show T.next[i]'hlt = rowI T i from HROW.out.symm)
            have HLT := Lib.hid (show condB T m i = false → ag = false → m = l ∧ ∀ j, j < i + 1 → j < T.next.length → condB T l j = true → l.getD j false = true from fun hcf h => by
              obtain ⟨e, hh⟩ := H1.out h
              refine ⟨e, fun j hj hjn hjc => ?_⟩
              by_cases ej : j = i
              · subst ej; rw [← e, hcf] at hjc; exact nomatch hjc
              · exact hh j (by omega) hjn hjc)
            have HCN := Lib.hid (count_set (l := m) (i := i) (by rw [HML.out]; exact hlt) hmi)
            have HLL2 := Lib.hid (show ag = true → m.count false ≤ l.count false from fun h => Nat.le_of_lt (H2.out h))
            have HLL3 := Lib.hid (show ag = false → m.count false ≤ l.count false from fun h => by rw [(H1.out h).1]; exact Nat.le_refl _)
            have hrl : (rowI T i).length ≤ 256 := by have := RL.out; have := HP.out.c2; omega
            clear hmi HROW HTG hra hta hw hb d0 d1
            generalize tagI T i = tg at *
            generalize rowI T i = row at *
            generalize condB T m i = cond at *
            go_wp2_with fail
            clear cb ctg d3 d4
            go_loopw [6, 7, 8] (fun v6 v7 _ wx => ∃ q : Nat, q ≤ row.length ∧ v7 = .int .i64 q ∧ v6 = .bool (decide (0 ≤ tg) || (row.take q).any (hasB m)) ∧ Blk wx wb.heap.size 4 (bools m) ∧ Below wb.heap.size wb wx) (fun _ v7 _ _ => row.length - (intOf v7).toNat)
            case atStart => exact ⟨0, by omega, rfl, by simp, HB.out, HW.out⟩
            case round =>
              clear HW HB
              obtain ⟨q, hq, rfl, rfl, hb, hw⟩ := hrel
              have HW := Lib.hid hw
              have HB := Lib.hid hb
              obtain ⟨d0, d1, dr, an, cn, at_, ct, d3, d4, hra, hta⟩ := (HT.out.below hw).cells
              clear dr hta d1 d4
              by_cases hlq : q < row.length
              · have t2 : decide ((q : Int) < T.classes) = true := by have := RL.out; simp; omega
                obtain ⟨rb, roff, A, c, rfl, hrb, crow, hri⟩ := hra.at_ hlt
                rw [HROW2.out] at crow hri
                obtain ⟨xb, xoff, rfl, hxb, cx⟩ := hri.at_ hlq
                have TK := Lib.hid (show (decide (0 ≤ tg) || (row.take (q + 1)).any (hasB m)) = ((decide (0 ≤ tg) || (row.take q).any (hasB m)) || hasB m row[q]) from by rw [List.take_succ_eq_append_getElem hlq, List.any_append]; simp [Bool.or_assoc])
                have RGX := RG.out _ (List.getElem_mem hlq)
                clear hra hri
                generalize row[q] = x at *
                generalize (decide (0 ≤ tg) || (row.take q).any (hasB m)) = b at *
                cases b with
                | true =>
                  have HX := Lib.hid (show (decide (0 ≤ tg) || (row.take (q + 1)).any (hasB m)) = true from by rw [TK.out]; rfl)
                  clear hb hw
                  go_wp2_with fail
                  go_roundw
                  case rel => exact ⟨q + 1, by omega, by go_num, by rw [HX.out], HB.out, HW.out⟩
                  case measure => simp [intOf]; omega
                | false =>
                  by_cases hx : 0 ≤ x
                  · have t3 : decide (0 ≤ x) = true := by simpa
                    obtain ⟨xn, rfl⟩ := Int.eq_ofNat_of_zero_le hx
                    have hxn : xn < T.next.length := by have := RGX.2; omega
                    have cm := (hb.cell xn).trans (bools_at (show xn < m.length by rw [HML.out]; exact hxn))
                    have HX := Lib.hid (show (decide (0 ≤ tg) || (row.take (q + 1)).any (hasB m)) = m.getD xn false from by rw [TK.out]; unfold hasB; rw [t3]; rfl)
                    clear hb hw RGX
                    generalize m.getD xn false = y at *
                    go_wp2_with fail
                    go_roundw
                    case rel => exact ⟨q + 1, by omega, by go_num, by rw [HX.out], HB.out, HW.out⟩
                    case measure => simp [intOf]; omega
                  · have t3 : decide (0 ≤ x) = false := by simpa using hx
                    have HX := Lib.hid (show (decide (0 ≤ tg) || (row.take (q + 1)).any (hasB m)) = false from by rw [TK.out]; unfold hasB; rw [t3]; rfl)
                    clear hb hw RGX
                    go_wp2_with fail
                    go_roundw
                    case rel => exact ⟨q + 1, by omega, by go_num, by rw [HX.out], HB.out, HW.out⟩
                    case measure => simp [intOf]; omega
              · have t2 : decide ((q : Int) < T.classes) = false := by have := RL.out; simp; omega
                have HE := Lib.hid (show (decide (0 ≤ tg) || (row.take q).any (hasB m)) = cond from by rw [List.take_of_length_le (by omega)]; exact CB.out.symm)
                rw [HE.out]
                have cbi := (hb.cell i).trans (bools_at (show i < m.length by rw [HML.out]; exact hlt))
                have fbi := hb.free i
                have HSET := Lib.hid ((hb.set i (.bool true)).cast (bools_set m i true))
                have HPUT := Lib.hid (below_put hw (p := ⟨wb.heap.size, i, none⟩) (by simp) (.bool true))
                clear hb hw hra
                cases cond with
                | true =>
                  have HS2 := Lib.hid (sound_set HS.out (CL.out rfl))
                  have hcn := HCN.out
                  have HCM := Lib.hid (show (m.set i true).count false < l.count false from by cases ag with
                    | true => exact Nat.lt_of_lt_of_le HCN.out (HLL2.out rfl)
                    | false => exact Nat.lt_of_lt_of_le HCN.out (HLL3.out rfl))
                  clear hcn
                  go_wp2_with fail
                  go_roundw
                  case rel => exact ⟨i + 1, m.set i true, true, by omega, by go_num, rfl, HS2.out, fun h => (nomatch h), fun _ => HCM.out, HSET.out, HPUT.out⟩
                  case measure => simp [intOf]; omega
                | false =>
                  have HX := Lib.hid (HLT.out rfl)
                  clear cbi fbi
                  go_wp2_with fail
                  go_roundw
                  case rel => exact ⟨i + 1, m, ag, by omega, by go_num, rfl, HS.out, HX.out, H2.out, HB.out, HW.out⟩
                  case measure => simp [intOf]; omega
        · have t1 : decide (i < T.next.length) = false := by simpa using hlt
          have HX := Lib.hid (show ag = false → ∀ j, j < T.next.length → condB T m j = true → m.getD j false = true from fun h j hj hc => by
            obtain ⟨e, hh⟩ := H1.out h
            rw [e] at hc ⊢; exact hh j (by omega) hj hc)
          have HM := Lib.hid (show 2 * m.count false + (if ag then 1 else 0) < gk from by
            cases ag with
            | true => have := H2.out rfl; simp; omega
            | false => rw [(H1.out rfl).1]; simp; omega)
          clear hb hw
          go_wp2_with fail
          go_roundg (2 * m.count false + (if ag then 1 else 0))
          case measure => exact HM.out
          case rel => exact ⟨m, ag, rfl, Nat.le_refl _, HS.out, HX.out, HB.out, HW.out⟩
    | false =>
      have HE := Lib.hid (live_list HS.out (HC.out rfl))
      have HU := Lib.hid (show trues l T.next.length = usefulL T from by rw [HE.out]; exact trues_live T)
      clear hb hw hgg HS HC HE
      go_wp2_with fail
      go_loopw [9, 10] (fun v i wx => ∃ k : Nat, k ≤ T.next.length ∧ i = .int .i64 k ∧ wx.ownsRow (wb.heap.size + 1) 3 1 v (trues l k).length (ints (trues l k)) ∧ Blk wx wb.heap.size 4 (bools l) ∧ Below wb.heap.size wb wx) (fun _ i _ => T.next.length - (intOf i).toNat)
      case atStart => exact ⟨0, by omega, rfl, World.ownsRow_nil _ _ _ _, HB.out, HW.out⟩
      case round =>
        clear HW HB
        obtain ⟨k, hk, rfl, hown, hb, hw⟩ := hrel
        have HO := Lib.hid hown
        have HW := Lib.hid hw
        have HB := Lib.hid hb
        by_cases hlt : k < T.next.length
        · have t1 : decide (k < T.next.length) = true := by simpa
          have cb := (hb.cell k).trans (bools_at (show k < l.length by rw [HLL.out]; exact hlt))
          have TS := Lib.hid (trues_succ l k)
          have hsm := trues_len l k
          have hbl := hb.lt
          clear hown hw hb
          generalize l.getD k false = y at *
          cases y with
          | true =>
            have HX := Lib.hid (TS.out.trans (if_pos rfl))
            go_wp2_with (at_builtin; refine wpList_push rfl (.tmp 71) (.tmp 73) rfl (wb.heap.size + 1) (trues l k) k _ rfl HO.out rfl (by omega) (by omega) ?_; intro v' w2 hown2 hgrow hbelow)
            have HO2 := Lib.hid hown2
            have HB2 := Lib.hid ((HB.out.alloc (.cells #[.int .i64 k] 3)).grown hgrow (own_ne HO.out (by omega)))
            have HW2 := Lib.hid (HW.out.trans (hbelow.mono (by omega)))
            clear hown2 hgrow hbelow
            go_wp2_with fail
            go_roundw
            case rel => exact ⟨k + 1, by omega, by go_num, by rw [HX.out]; exact HO2.out, HB2.out, HW2.out⟩
            case measure => simp [intOf]; omega
          | false =>
            have HX := Lib.hid (TS.out.trans (if_neg (by simp)))
            go_wp2_with fail
            go_roundw
            case rel => exact ⟨k + 1, by omega, by go_num, by rw [HX.out]; exact HO.out, HB.out, HW.out⟩
            case measure => simp [intOf]; omega
        · have t1 : decide (k < T.next.length) = false := by simpa using hlt
          have HX := Lib.hid (show trues l k = usefulL T from by rw [show k = T.next.length by omega]; exact HU.out)
          clear hown hw hb
          go_wp2_with fail
          go_returns
          exact ⟨⟨_, rfl, by rw [← HX.out]; exact own_mono HO.out (by omega)⟩, below_step W0.out HW.out⟩
end Go.Proofs.Ytafcnehinanecaa
