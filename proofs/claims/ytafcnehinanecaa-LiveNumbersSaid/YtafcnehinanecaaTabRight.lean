/- The reference's Right. -/
import Derived.Test.YtafcnehinanecaaTabFew
namespace Go.Proofs.Ytafcnehinanecaa
open Go.RowKit
/-- A table that may be. -/
structure RightP (T : Tb) : Prop where
  c1 : 1 ≤ T.classes
  c2 : T.classes ≤ 256
  n3 : T.next.length ≤ 300
  nt : T.next.length = T.tag.length
  s1 : -1 ≤ T.start
  s2 : T.start < T.next.length
  s3 : T.start = -1 → T.next.length = 0
  bs : ∀ j (h : j < T.remap.length), (T.remap[j] : Int) < T.classes
  rows : ∀ i (h : i < T.next.length), (T.next[i].length : Int) = T.classes
  tags : ∀ i (h : i < T.tag.length), -1 ≤ T.tag[i] ∧ T.tag[i] ≤ 7
  goes : ∀ i (h : i < T.next.length) k (hk : k < T.next[i].length), -1 ≤ T.next[i][k] ∧ T.next[i][k] < T.next.length
open Classical in
noncomputable def rightB (T : Tb) : Bool := decide (RightP T)
theorem rightB_iff (T : Tb) : rightB T = true ↔ RightP T := by unfold rightB; simp
theorem rightB_yes {T : Tb} (h : RightP T) : rightB T = true := (rightB_iff T).2 h
theorem rightB_no {T : Tb} (h : ¬ RightP T) : rightB T = false := by
  cases e : rightB T with
  | false => rfl
  | true => exact absurd ((rightB_iff T).1 e) h
attribute [irreducible] rightB
attribute [local irreducible] Calls
structure HeadP (T : Tb) : Prop where
  c1 : 1 ≤ T.classes
  c2 : T.classes ≤ 256
  n3 : T.next.length ≤ 300
  nt : T.next.length = T.tag.length
  s1 : -1 ≤ T.start
  s2 : T.start < T.next.length
  s3 : T.start = -1 → T.next.length = 0
theorem RightP.head {T : Tb} (h : RightP T) : HeadP T := ⟨h.1, h.2, h.3, h.4, h.5, h.6, h.7⟩
structure GoodRow (T : Tb) (i : Nat) : Prop where
  len : ∀ h : i < T.next.length, (T.next[i].length : Int) = T.classes
  tag : ∀ h : i < T.tag.length, -1 ≤ T.tag[i] ∧ T.tag[i] ≤ 7
  goes : ∀ (h : i < T.next.length) k (hk : k < T.next[i].length), -1 ≤ T.next[i][k] ∧ T.next[i][k] < T.next.length
set_option maxHeartbeats 4000000 in
set_option maxRecDepth 100000 in
theorem rright_c (tv : Array Value) (T : Tb) (w : World) (h : TbR w tv T) : Calls Try.prog 10 #[.agg tv] w fun e w' => e = .returned (.bool (rightB T)) ∧ Below w.heap.size w w' := by
  have W0 := Lib.hid (below_alloc (Below.refl w.heap.size w) (.cells tv 26))
  have HT := Lib.hid h.boxed
  obtain ⟨c0, c1, _, an, cn, at_, ct, c3, c4, hra, hta⟩ := HT.out.cells
  have HRA := Lib.hid hra
  have HTA := Lib.hid hta
  clear h hra hta
  go_enter Try.func10, Try.ntmps10
  go_upto_region 1 with fail
  generalize hwb : w.alloc _ = wb at *
  clear hwb
  go_upto_region 2 with fail
  go_cut [48] from 10 to 48 (fun v wx => ∃ b, v = .bool b ∧ (b = true ↔ ¬ HeadP T) ∧ wx = wb)
  case first =>
    generalize hn : T.next.length = n at *
    generalize hm : T.tag.length = m at *
    have HN := Lib.hid hn
    have HM := Lib.hid hm
    clear hn hm
    by_cases h1 : T.classes < 1
    · have t1 : decide (T.classes < 1) = true := by simpa
      (have HX := Lib.hid (show ¬ HeadP T from fun p => by obtain ⟨_, _, _, _, _, _, _⟩ := p; have := HN.out; have := HM.out; omega); go_wp2_with fail; go_meet; exact ⟨true, rfl, ⟨fun _ => HX.out, fun _ => rfl⟩, rfl⟩)
    have t1 : decide (T.classes < 1) = false := by simpa using h1
    by_cases h2 : 256 < T.classes
    · have t2 : decide (256 < T.classes) = true := by simpa
      (have HX := Lib.hid (show ¬ HeadP T from fun p => by obtain ⟨_, _, _, _, _, _, _⟩ := p; have := HN.out; have := HM.out; omega); go_wp2_with fail; go_meet; exact ⟨true, rfl, ⟨fun _ => HX.out, fun _ => rfl⟩, rfl⟩)
    have t2 : decide (256 < T.classes) = false := by simpa using h2
    by_cases h3 : 300 < n
    · have t3 : decide ((300 : Int) < (n : Nat)) = true := by simp; omega
      (have HX := Lib.hid (show ¬ HeadP T from fun p => by obtain ⟨_, _, _, _, _, _, _⟩ := p; have := HN.out; have := HM.out; omega); go_wp2_with fail; go_meet; exact ⟨true, rfl, ⟨fun _ => HX.out, fun _ => rfl⟩, rfl⟩)
    have t3 : decide ((300 : Int) < (n : Nat)) = false := by simp; omega
    by_cases h4 : n = m
    case neg =>
      have t4 : decide ((n : Int) = (m : Nat)) = false := by simp; omega
      (have HX := Lib.hid (show ¬ HeadP T from fun p => by obtain ⟨_, _, _, _, _, _, _⟩ := p; have := HN.out; have := HM.out; omega); go_wp2_with fail; go_meet; exact ⟨true, rfl, ⟨fun _ => HX.out, fun _ => rfl⟩, rfl⟩)
    subst h4
    by_cases h5 : T.start < -1
    · have t5 : decide (T.start < -1) = true := by simpa
      (have HX := Lib.hid (show ¬ HeadP T from fun p => by obtain ⟨_, _, _, _, _, _, _⟩ := p; have := HN.out; have := HM.out; omega); go_wp2_with fail; go_meet; exact ⟨true, rfl, ⟨fun _ => HX.out, fun _ => rfl⟩, rfl⟩)
    have t5 : decide (T.start < -1) = false := by simpa using h5
    by_cases h6 : (n : Int) ≤ T.start
    · have t6 : decide ((n : Int) ≤ T.start) = true := by simpa
      (have HX := Lib.hid (show ¬ HeadP T from fun p => by obtain ⟨_, _, _, _, _, _, _⟩ := p; have := HN.out; have := HM.out; omega); go_wp2_with fail; go_meet; exact ⟨true, rfl, ⟨fun _ => HX.out, fun _ => rfl⟩, rfl⟩)
    have t6 : decide ((n : Int) ≤ T.start) = false := by simpa using h6
    by_cases h7 : T.start = -1
    · by_cases h8 : 0 < n
      · have t8 : decide (0 < n) = true := by simp; omega
        have H7 := Lib.hid h7
        have HX := Lib.hid (show ¬ HeadP T from fun p => by have := p.s3 h7; have := HN.out; omega)
        rw [h7] at c1
        clear h7 t5 t6 h5 h6
        have t5 : decide ((-1 : Int) < -1) = false := by decide
        have t6 : decide ((n : Int) ≤ -1) = false := by simp; omega
        clear h8
        go_wp2_with fail; go_meet; exact ⟨true, rfl, ⟨fun _ => HX.out, fun _ => rfl⟩, rfl⟩
      · have t8 : decide (0 < n) = false := by simp; omega
        have HX := Lib.hid (show HeadP T from by have := HN.out; have := HM.out; exact ⟨by omega, by omega, by omega, by omega, by omega, by omega, fun _ => by omega⟩)
        rw [h7] at c1
        clear h7 t5 t6 h5 h6
        have t6 : decide ((n : Int) ≤ -1) = false := by simp; omega
        go_wp2_with fail; go_meet; exact ⟨false, rfl, ⟨fun h => (nomatch h), fun h => absurd HX.out h⟩, rfl⟩
    · have t7 : decide (T.start = -1) = false := by simpa using h7
      have HX := Lib.hid (show HeadP T from by have := HN.out; have := HM.out; exact ⟨by omega, by omega, by omega, by omega, by omega, by omega, fun h => absurd h h7⟩)
      have t9 : (T.start == -1) = false := by simpa using h7
      go_wp2_with fail; go_meet; exact ⟨false, rfl, ⟨fun h => (nomatch h), fun h => absurd HX.out h⟩, rfl⟩
  case rest =>
    obtain ⟨b, rfl, hb, hwc⟩ := hcut
    subst hwc
    have HB := Lib.hid hb
    clear hb
    have HW := Lib.hid (Below.refl wc.heap.size wc)
    cases b with
    | true => (have HX := Lib.hid (show ¬ RightP T from (fun p => HB.out.1 rfl p.head)); go_wp2_with fail; go_returns; exact ⟨by rw [rightB_no HX.out]; rfl, below_step W0.out HW.out⟩)
    | false => 
      have HD := Lib.hid (show HeadP T from Classical.byContradiction fun h => nomatch HB.out.2 h)
      clear HB
      go_wp2_with fail
      go_loopw [4] (fun j wx => ∃ k : Nat, k ≤ 256 ∧ j = .int .i64 k ∧ (∀ i (hi : i < T.remap.length), i < k → (T.remap[i] : Int) < T.classes) ∧ Below wc.heap.size wc wx) (fun j _ => 256 - (intOf j).toNat)
      case atStart => exact ⟨0, by omega, rfl, fun i hi h => by omega, HW.out⟩
      case round =>
        clear HW
        obtain ⟨k, hk, rfl, ha, hw⟩ := hrel
        have HL := Lib.hid HT.out.len
        have HW := Lib.hid hw
        have HA := Lib.hid ha
        have HT1 := Lib.hid (HT.out.below hw)
        clear ha hw
        obtain ⟨c0, c1, cr, an, cn, at_, ct, c3, c4, hra, hta⟩ := HT1.out.cells
        by_cases hlt : k < 256
        · have t1 : decide (k < 256) = true := by simp; omega
          have ck := cr k hlt
          have HM := Lib.hid (show (T.remap[k]'(by rw [HL.out]; exact hlt) : Int) < T.classes → ∀ i (hi : i < T.remap.length), i < k + 1 → (T.remap[i] : Int) < T.classes from fun h i hi hik => by
            by_cases e : i = k
            · subst e; exact h
            · exact HA.out i hi (by omega))
          have HN := Lib.hid (show ¬ (T.remap[k]'(by rw [HL.out]; exact hlt) : Int) < T.classes → ¬ RightP T from fun h p => h (p.bs k _))
          have hb := HT.out.byte _ (List.getElem_mem (show k < T.remap.length by rw [HL.out]; exact hlt))
          generalize T.remap[k]'(by rw [HL.out]; exact hlt) = b at *
          clear cr hra hta
          by_cases hc : (b : Int) < T.classes
          · have t2 : decide (T.classes ≤ (b : Int)) = false := by simp; omega
            have HX := Lib.hid (HM.out hc)
            go_wp2_with fail
            go_quiet (fail)
            go_wp2_with fail
            go_roundw
            case rel => exact ⟨k + 1, by omega, by go_num, HX.out, by (first | exact HW.out | exact below_dn HW.out _)⟩
            case measure => simp [intOf]; omega
          · have t2 : decide (T.classes ≤ (b : Int)) = true := by simp; omega
            have HX := Lib.hid (HN.out hc)
            go_wp2_with fail
            go_quiet (fail)
            go_wp2_with fail
            go_returns
            exact ⟨by rw [rightB_no HX.out]; rfl, below_step W0.out (by (first | exact HW.out | exact below_dn HW.out _))⟩
        · have t1 : decide (k < 256) = false := by simp; omega
          have HBS := Lib.hid (show ∀ i (hi : i < T.remap.length), (T.remap[i] : Int) < T.classes from fun i hi => HA.out i hi (by rw [HL.out] at hi; omega))
          clear cr hra hta HA
          clear c0 c1 c3 c4
          have R0 := Lib.hid (show ∀ i (h : i < T.next.length), i < 0 → GoodRow T i from fun i h h0 => by omega)
          go_wp2_with fail
          go_loopw [5, 6] (fun j j6 wx => ∃ k : Nat, k ≤ T.next.length ∧ j = .int .i64 k ∧ (∀ i (h : i < T.next.length), i < k → GoodRow T i) ∧ Below wc.heap.size wc wx) (fun j _ _ => T.next.length - (intOf j).toNat)
          case atStart => exact ⟨0, by omega, rfl, R0.out, by (first | exact HW.out | exact below_dn HW.out _)⟩
          case round =>
            clear HW R0 HT1
            obtain ⟨i, hi, rfl, ha, hw⟩ := hrel
            have HW := Lib.hid hw
            have HT1 := Lib.hid (HT.out.below hw)
            have HA := Lib.hid ha
            clear ha hw
            obtain ⟨c0, c1, cr, an, cn, at_, ct, c3, c4, hra, hta⟩ := HT1.out.cells
            have HTA := Lib.hid hta
            clear cr hta
            by_cases hlt : i < T.next.length
            · have hlt2 : i < T.tag.length := by have := HD.out.nt; omega
              have t1 : decide ((i : Int) < (T.next.length : Nat)) = true := by simp; omega
              obtain ⟨b, off, A, c, rfl, hb, cr, hri⟩ := hra.at_ hlt
              obtain ⟨tb, toff, rfl, htb, ctg⟩ := HTA.out.at_ hlt2
              have HRI := Lib.hid hri
              have N1 := Lib.hid (show ¬ (T.next[i].length : Int) = T.classes → ¬ RightP T from fun h p => h (p.rows i hlt))
              have N2 := Lib.hid (show T.tag[i] < -1 → ¬ RightP T from fun h p => by have := (p.tags i hlt2).1; omega)
              have N3 := Lib.hid (show 7 < T.tag[i] → ¬ RightP T from fun h p => by have := (p.tags i hlt2).2; omega)
              have N4 := Lib.hid (show ∀ k (hk : k < T.next[i].length), T.next[i][k] < -1 → ¬ RightP T from fun k hk h p => by have := (p.goes i hlt k hk).1; omega)
              have N5 := Lib.hid (show ∀ k (hk : k < T.next[i].length), (T.next.length : Int) ≤ T.next[i][k] → ¬ RightP T from fun k hk h p => by have := (p.goes i hlt k hk).2; omega)
              have YG := Lib.hid (show (T.next[i].length : Int) = T.classes → -1 ≤ T.tag[i] → T.tag[i] ≤ 7 → (∀ k (hk : k < T.next[i].length), -1 ≤ T.next[i][k] ∧ T.next[i][k] < T.next.length) → ∀ j (h : j < T.next.length), j < i + 1 → GoodRow T j from fun h1 h2 h3 h4 j h hj => by
                by_cases e : j = i
                · subst e; exact ⟨fun _ => h1, fun _ => ⟨h2, h3⟩, fun _ => h4⟩
                · exact HA.out j h (by omega))
              clear hra hri HTA
              generalize hrow : T.next[i] = row at *
              have HROW := Lib.hid hrow
              clear hrow
              generalize T.tag[i] = tg at *
              by_cases h1 : (row.length : Int) = T.classes
              case neg =>
                have t2 : ((row.length : Int) != T.classes) = true := by simpa using h1
                have HX := Lib.hid (N1.out h1)
                clear h1
                go_wp2_with fail
                go_quiet (fail)
                go_wp2_with fail
                go_returns
                exact ⟨by rw [rightB_no HX.out]; rfl, below_step W0.out (by (first | exact HW.out | exact below_dn HW.out _))⟩
              have t2 : ((row.length : Int) != T.classes) = false := by simpa using h1
              have H1 := Lib.hid h1
              clear h1
              by_cases h2 : tg < -1
              · have t3 : decide (tg < -1) = true := by simpa
                have HX := Lib.hid (N2.out h2)
                go_wp2_with fail
                go_quiet (fail)
                go_wp2_with fail
                go_returns
                exact ⟨by rw [rightB_no HX.out]; rfl, below_step W0.out (by (first | exact HW.out | exact below_dn HW.out _))⟩
              have t3 : decide (tg < -1) = false := by simpa using h2
              by_cases h3 : 7 < tg
              · have t4 : decide (7 < tg) = true := by simpa
                have HX := Lib.hid (N3.out h3)
                go_wp2_with fail
                go_quiet (fail)
                go_wp2_with fail
                go_returns
                exact ⟨by rw [rightB_no HX.out]; rfl, below_step W0.out (by (first | exact HW.out | exact below_dn HW.out _))⟩
              have t4 : decide (7 < tg) = false := by simpa using h3
              have R1 := Lib.hid (show ∀ k (hk : k < row.length), k < 0 → -1 ≤ row[k] ∧ row[k] < T.next.length from fun k hk h0 => by omega)
              go_wp2_with fail
              go_quiet (fail)
              go_wp2_with fail
              clear c0 c1 c3 c4 cr ctg
              go_loopw [6] (fun j wx => ∃ k : Nat, k ≤ row.length ∧ j = .int .i64 k ∧ (∀ q (hq : q < row.length), q < k → -1 ≤ row[q] ∧ row[q] < T.next.length) ∧ Below wc.heap.size wc wx) (fun j _ => row.length - (intOf j).toNat)
              case atStart => exact ⟨0, by omega, rfl, R1.out, by (first | exact HW.out | exact below_dn HW.out _)⟩
              case round =>
                clear HW R1 HT1
                obtain ⟨q, hq, rfl, ha2, hw⟩ := hrel
                have HW := Lib.hid hw
                have HT1 := Lib.hid (HT.out.below hw)
                have HA2 := Lib.hid ha2
                clear ha2 hw
                obtain ⟨c0, c1, cr, an, cn, at_, ct, c3, c4, hra, hta⟩ := HT1.out.cells
                clear cr hta
                obtain ⟨b, off, A, c, rfl, hb, cr, hri⟩ := hra.at_ hlt
                rw [HROW.out] at cr hri
                have hb6 : row.length ≤ 256 := by have := HD.out.c2; have := H1.out; omega
                have hb7 : T.next.length ≤ 300 := HD.out.n3
                by_cases hlt3 : q < row.length
                · have t1 : decide ((q : Int) < T.classes) = true := by have := H1.out; simp; omega
                  obtain ⟨rb, roff, rfl, hrb, crow⟩ := hri.at_ hlt3
                  have M4 := Lib.hid (N4.out q hlt3)
                  have M5 := Lib.hid (N5.out q hlt3)
                  have MY := Lib.hid (show -1 ≤ row[q] ∧ row[q] < T.next.length → ∀ j (hj : j < row.length), j < q + 1 → -1 ≤ row[j] ∧ row[j] < T.next.length from fun h j hj hjq => by
                    by_cases e : j = q
                    · subst e; exact h
                    · exact HA2.out j hj (by omega))
                  clear hra hri
                  generalize row[q] = x at *
                  by_cases h4 : x < -1
                  · have t5 : decide (x < -1) = true := by simpa
                    have HX := Lib.hid (M4.out h4)
                    go_wp2_with fail
                    go_returns
                    exact ⟨by rw [rightB_no HX.out]; rfl, below_step W0.out (by (first | exact HW.out | exact below_dn HW.out _))⟩
                  have t5 : decide (x < -1) = false := by simpa using h4
                  by_cases h5 : (T.next.length : Int) ≤ x
                  · have t6 : decide ((T.next.length : Int) ≤ x) = true := by simpa
                    have HX := Lib.hid (M5.out h5)
                    go_wp2_with fail
                    go_returns
                    exact ⟨by rw [rightB_no HX.out]; rfl, below_step W0.out (by (first | exact HW.out | exact below_dn HW.out _))⟩
                  have t6 : decide ((T.next.length : Int) ≤ x) = false := by simpa using h5
                  have HX := Lib.hid (MY.out ⟨by omega, by omega⟩)
                  go_wp2_with fail
                  go_roundw
                  case rel => exact ⟨q + 1, by omega, by go_num, HX.out, by (first | exact HW.out | exact below_dn HW.out _)⟩
                  case measure => simp [intOf]; omega
                · have t1 : decide ((q : Int) < T.classes) = false := by have := H1.out; simp; omega
                  have HX := Lib.hid (YG.out H1.out (by omega) (by omega) (fun k hk => HA2.out k hk (by omega)))
                  clear hra hri
                  go_wp2_with fail
                  go_roundw
                  case rel => exact ⟨i + 1, by omega, by go_num, HX.out, by (first | exact HW.out | exact below_dn HW.out _)⟩
                  case measure => simp [intOf]; omega
            · have t1 : decide ((i : Int) < (T.next.length : Nat)) = false := by simp; omega
              have HX := Lib.hid (show RightP T from ⟨HD.out.c1, HD.out.c2, HD.out.n3, HD.out.nt, HD.out.s1, HD.out.s2, HD.out.s3, HBS.out, fun j h => (HA.out j h (by omega)).len h, fun j h => (HA.out j (show j < T.next.length by rw [HD.out.nt]; exact h) (show j < i by have := HD.out.nt; omega)).tag h, fun j h => (HA.out j h (show j < i by omega)).goes h⟩)
              clear hra
              go_wp2_with fail
              go_returns
              exact ⟨by rw [rightB_yes HX.out]; rfl, below_step W0.out HW.out⟩
end Go.Proofs.Ytafcnehinanecaa
