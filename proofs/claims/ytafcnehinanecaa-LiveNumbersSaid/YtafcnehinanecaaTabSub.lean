/- subset.Right. -/
import Derived.Test.YtafcnehinanecaaTabAny
import Derived.Shelf.Abstract
import Derived.Laws.EntriesVeiled
namespace Go.Proofs.Ytafcnehinanecaa
open Go.RowKit
attribute [local irreducible] Calls
def okB (k n : Int) : Bool := decide (-1 ≤ k) && decide (k < n)
theorem okB_iff (k n : Int) : okB k n = true ↔ -1 ≤ k ∧ k < n := by unfold okB; simp
attribute [irreducible] okB
theorem okB_no {k n : Int} (h : k < -1 ∨ n ≤ k) : okB k n = false := by
  cases e : okB k n with
  | false => rfl
  | true => have := (okB_iff k n).1 e; omega
theorem ok1_c (k n : Int) (g : Nat) (w : World) (hc : w.cell? ⟨g, 0, none⟩ = some (.int .i64 n)) : Calls Try.prog 39 #[.int .i64 k, .pointer (some ⟨g, 0, none⟩)] w fun e w' => e = .returned (.bool (okB k n)) ∧ Below w.heap.size w w' := by
  by_cases h : -1 ≤ k
  · have t1 : decide (-1 ≤ k) = true := by simpa
    have HX := Lib.hid (show okB k n = decide (k < n) from by unfold okB; simp [h])
    go_enter Try.func39, Try.ntmps39
    go_wp2_with fail
    go_returns
    exact ⟨by rw [HX.out]; rfl, Below.refl _ _⟩
  · have t1 : decide (-1 ≤ k) = false := by simpa using h
    have HX := Lib.hid (show okB k n = false from okB_no (by omega))
    go_enter Try.func39, Try.ntmps39
    go_wp2_with fail
    go_returns
    exact ⟨by rw [HX.out]; rfl, Below.refl _ _⟩
theorem ok2_c (x : Nat) (hx : x < 256) (c : Int) (g : Nat) (w : World) (hc : w.cell? ⟨g, 0, none⟩ = some (.int .i64 c)) : Calls Try.prog 41 #[.int .u8 (x : Nat), .pointer (some ⟨g, 0, none⟩)] w fun e w' => e = .returned (.bool (decide (c ≤ (x : Int)))) ∧ Below w.heap.size w w' := by
  go_enter Try.func41, Try.ntmps41
  go_wp2_with fail
  go_returns
  exact ⟨rfl, Below.refl _ _⟩
theorem ok3_c (k n : Int) (g g2 : Nat) (w : World) (hc : w.cell? ⟨g, 0, none⟩ = some (.int .i64 n)) (hf : w.cell? ⟨g2, 0, none⟩ = some (.func (.func 39) #[] #[.pointer (some ⟨g, 0, none⟩)])) : Calls Try.prog 43 #[.int .i64 k, .pointer (some ⟨g2, 0, none⟩)] w fun e w' => e = .returned (.bool (!okB k n)) ∧ Below w.heap.size w w' := by
  have H1 := Lib.hid (ok1_c k n g w hc)
  go_enter Try.func43, Try.ntmps43
  go_wp2_with fail
  refine H1.out.mono ?_; rintro e w1 ⟨rfl, k1⟩; have K1 := Lib.hid k1; clear k1
  go_wp2_with fail
  go_returns
  exact ⟨rfl, K1.out⟩
theorem ent2 : ∀ args w, (callFunc 41 args).run Try.prog w = .ok (.enter 41 args) w := enters_of Try.func41 (by kernel_rfl) rfl
theorem ent3 : ∀ args w, (callFunc 43 args).run Try.prog w = .ok (.enter 43 args) w := enters_of Try.func43 (by kernel_rfl) rfl
set_option maxHeartbeats 4000000 in
set_option maxRecDepth 100000 in
theorem right_c (tv : Array Value) (T : Tb) (w : World) (h : TbR w tv T) : Calls Try.prog 25 #[.agg tv] w fun e w' => e = .returned (.bool (rightB T)) ∧ Below w.heap.size w w' := by
  have W0 := Lib.hid (below_alloc (Below.refl w.heap.size w) (.cells tv 26))
  have HT := Lib.hid h.boxed
  obtain ⟨c0, c1, cr, an, cn, at_, ct, c3, c4, hra, hta⟩ := HT.out.cells
  clear h hra hta cr
  go_enter Try.func25, Try.ntmps25
  go_upto_region 1 with fail
  generalize hwb : w.alloc _ = wb at *
  have hb0 : w.heap.size < wb.heap.size := by rw [← hwb, World.size_alloc]; omega
  clear hwb
  go_upto_region 3 with fail
  have CN := Lib.hid (((Blk.made wb 3 #[.int .i64 T.next.length]).alloc (.cells #[.func (.func 39) #[] #[.pointer (some ⟨wb.heap.size, 0, none⟩)]] 50)).cell 0)
  have CF := Lib.hid (show ((wb.alloc (.cells #[.int .i64 T.next.length] 3)).alloc (.cells #[.func (.func 39) #[] #[.pointer (some ⟨wb.heap.size, 0, none⟩)]] 50)).cell? ⟨wb.heap.size + 1, 0, none⟩ = some (.func (.func 39) #[] #[.pointer (some ⟨wb.heap.size, 0, none⟩)]) from by
    have := (Blk.made (wb.alloc (.cells #[.int .i64 T.next.length] 3)) 50 #[.func (.func 39) #[] #[.pointer (some ⟨wb.heap.size, 0, none⟩)]]).cell 0
    rwa [World.size_alloc] at this)
  have K0 := Lib.hid (below_alloc (below_alloc (Below.refl wb.heap.size wb) (.cells #[.int .i64 T.next.length] 3)) (.cells #[.func (.func 39) #[] #[.pointer (some ⟨wb.heap.size, 0, none⟩)]] 50))
  have hsz : wb.heap.size + 1 < ((wb.alloc (.cells #[.int .i64 T.next.length] 3)).alloc (.cells #[.func (.func 39) #[] #[.pointer (some ⟨wb.heap.size, 0, none⟩)]] 50)).heap.size := by rw [World.size_alloc, World.size_alloc]; omega
  generalize hwa : (wb.alloc _).alloc _ = wa at *
  clear hwa c0 c1 c3 c4
  have W1 := Lib.hid (below_step W0.out K0.out)
  have HT1 := Lib.hid (HT.out.below K0.out)
  generalize wb.heap.size = g at *
  have hb1 : w.heap.size < wa.heap.size := by omega
  generalize hg : w.heap.size = g0 at *
  have W2 := Lib.hid (show Below w.heap.size w wa from by rw [hg]; exact W1.out)
  clear hg W1
  clear HT W0 K0
  have KB := Lib.hid (Below.refl wa.heap.size wa)
  obtain ⟨c0, c1, cr, an, cn, at_, ct, c3, c4, hra, hta⟩ := HT1.out.cells
  clear hra hta cr
  have OK := Lib.hid (fun k w1 h => ok1_c k T.next.length g w1 h)
  go_cut [44] from 11 to 44 (fun v wx => ∃ b, v = .bool b ∧ (b = true ↔ ¬ HeadP T) ∧ Below wa.heap.size wa wx)
  case first =>
    have cnn : wa.cell? ⟨g, 0, none⟩ = some (.int .i64 T.next.length) := CN.out
    have cff : wa.cell? ⟨g + 1, 0, none⟩ = some (.func (.func 39) #[] #[.pointer (some ⟨g, 0, none⟩)]) := CF.out
    generalize hn : T.next.length = n at *
    generalize hm : T.tag.length = m at *
    have HN := Lib.hid hn
    have HM := Lib.hid hm
    clear hn hm
    by_cases h1 : T.classes < 1
    · have t1 : decide (T.classes < 1) = true := by simpa
      (have HX := Lib.hid (show ¬ HeadP T from fun p => by obtain ⟨_, _, _, _, _, _, _⟩ := p; have := HN.out; have := HM.out; omega); go_wp2_with fail; go_meet; exact ⟨true, rfl, ⟨fun _ => HX.out, fun _ => rfl⟩, KB.out⟩)
    have t1 : decide (T.classes < 1) = false := by simpa using h1
    by_cases h2 : 256 < T.classes
    · have t2 : decide (256 < T.classes) = true := by simpa
      (have HX := Lib.hid (show ¬ HeadP T from fun p => by obtain ⟨_, _, _, _, _, _, _⟩ := p; have := HN.out; have := HM.out; omega); go_wp2_with fail; go_meet; exact ⟨true, rfl, ⟨fun _ => HX.out, fun _ => rfl⟩, KB.out⟩)
    have t2 : decide (256 < T.classes) = false := by simpa using h2
    by_cases h3 : 300 < n
    · have t3 : decide ((300 : Int) < (n : Nat)) = true := by simp; omega
      (have HX := Lib.hid (show ¬ HeadP T from fun p => by obtain ⟨_, _, _, _, _, _, _⟩ := p; have := HN.out; have := HM.out; omega); go_wp2_with fail; go_meet; exact ⟨true, rfl, ⟨fun _ => HX.out, fun _ => rfl⟩, KB.out⟩)
    have t3 : decide ((300 : Int) < (n : Nat)) = false := by simp; omega
    by_cases h4 : n = m
    case neg =>
      have t4 : decide ((m : Int) = (n : Nat)) = false := by simp; omega
      (have HX := Lib.hid (show ¬ HeadP T from fun p => by obtain ⟨_, _, _, _, _, _, _⟩ := p; have := HN.out; have := HM.out; omega); go_wp2_with fail; go_meet; exact ⟨true, rfl, ⟨fun _ => HX.out, fun _ => rfl⟩, KB.out⟩)
    subst h4
    go_wp2_with fail
    refine (OK.out _ _ CN.out).mono ?_; rintro e w1 ⟨rfl, k1⟩
    have c1' : w1.cell? ⟨g0, 1, none⟩ = some (.int .i64 T.start) := (HT1.out.below k1).cells.2.1
    have cnn' : w1.cell? ⟨g, 0, none⟩ = some (.int .i64 n) := (k1.cell (p := ⟨g, 0, none⟩) (show g < wa.heap.size by omega)).trans CN.out
    have K1 := Lib.hid k1
    clear k1 c0 c1 c3 c4 cnn cff
    cases ho : okB T.start n with
    | false =>
      have HX := Lib.hid (show ¬ HeadP T from fun p => by
        have := p.s1; have := p.s2; have := HN.out
        have : okB T.start n = true := (okB_iff _ _).2 ⟨by omega, by omega⟩
        rw [ho] at this; exact nomatch this)
      go_wp2_with fail; go_meet; exact ⟨true, rfl, ⟨fun _ => HX.out, fun _ => rfl⟩, K1.out⟩
    | true =>
      obtain ⟨o1, o2⟩ := (okB_iff _ _).1 ho
      by_cases h7 : T.start < 0
      · have t7 : decide (T.start < 0) = true := by simpa
        by_cases h8 : n = 0
        · have HX := Lib.hid (show HeadP T from by have := HN.out; have := HM.out; exact ⟨by omega, by omega, by omega, by omega, by omega, by omega, fun _ => by omega⟩)
          have t8 : decide ((n : Int) = 0) = true := by simp; omega
          subst h8
          go_wp2_with fail; go_meet; exact ⟨false, rfl, ⟨fun h => (nomatch h), fun h => absurd HX.out h⟩, K1.out⟩
        · have HX := Lib.hid (show ¬ HeadP T from fun p => by have := p.s3 (by omega); have := HN.out; omega)
          have t8 : ((n : Int) == 0) = false := by simp; omega
          go_wp2_with fail; go_meet; exact ⟨true, rfl, ⟨fun _ => HX.out, fun _ => rfl⟩, K1.out⟩
      · have t7 : decide (T.start < 0) = false := by simpa using h7
        have HX := Lib.hid (show HeadP T from by have := HN.out; have := HM.out; exact ⟨by omega, by omega, by omega, by omega, by omega, by omega, fun _ => by omega⟩)
        have t8 : ((n : Int) == 0) = false := by simp; omega
        go_wp2_with fail; go_meet; exact ⟨false, rfl, ⟨fun h => (nomatch h), fun h => absurd HX.out h⟩, K1.out⟩
  case rest =>
    clear c0 c1 c3 c4 KB OK
    obtain ⟨b, rfl, hb, hw⟩ := hcut
    have HB := Lib.hid hb
    have HW := Lib.hid hw
    clear hb hw
    cases b with
    | true =>
      have HX := Lib.hid (show ¬ RightP T from fun p => HB.out.1 rfl p.head)
      go_wp2_with fail
      go_returns
      exact ⟨by rw [rightB_no HX.out]; rfl, below_step W2.out HW.out⟩
    | false =>
      have HD := Lib.hid (show HeadP T from Classical.byContradiction fun h => nomatch HB.out.2 h)
      clear HB
      have HT2 := Lib.hid (HT1.out.below HW.out)
      have HC := Lib.hid (has8_c 41 #[.pointer (some ⟨g0, 0, none⟩)] ent2 (fun x => decide (T.classes ≤ (x : Int))) T.remap (by rw [HT2.out.len]; omega) g0 2 256 wc HT2.out.lt (fun j hj => HT2.out.cells.2.2.1 j (by rw [HT2.out.len] at hj; exact hj)) (fun j hj W hW => ok2_c _ (HT2.out.byte _ (List.getElem_mem hj)) T.classes g0 W (HT2.out.below hW).cells.1))
      rw [HT1.out.len] at HC
      go_wp2_with fail
      refine HC.out.mono ?_; rintro e w1 ⟨rfl, k1⟩
      have HW1 := Lib.hid (below_step HW.out k1)
      clear k1 HC HT2
      cases hany : T.remap.any (fun x => decide (T.classes ≤ (x : Int))) with
      | true =>
        have HX := Lib.hid (show ¬ RightP T from fun p => by
          obtain ⟨x, hx, hd⟩ := List.any_eq_true.1 hany
          obtain ⟨j, hj, rfl⟩ := List.getElem_of_mem hx
          have := p.bs j hj
          simp at hd; omega)
        clear hany
        go_wp2_with fail
        go_returns
        exact ⟨by rw [rightB_no HX.out]; rfl, below_step W2.out HW1.out⟩
      | false =>
        have HBS := Lib.hid (show ∀ i (hi : i < T.remap.length), (T.remap[i] : Int) < T.classes from fun i hi => by
          have := List.any_eq_false.1 hany _ (List.getElem_mem hi)
          simpa using this)
        clear hany HW
        have R0 := Lib.hid (show ∀ i (h : i < T.next.length), i < 0 → GoodRow T i from fun i h h0 => by omega)
        obtain ⟨c0, c1, cr, an, cn, at_, ct, c3, c4, hra, hta⟩ := (HT1.out.below HW1.out).cells
        have HRA := Lib.hid hra
        clear hra hta cr c0 c1 c4
        go_wp2_with fail
        clear c3
        have hsz3 : wa.heap.size ≤ w1.heap.size := HW1.out.size
        have CN1 := Lib.hid (show w1.cell? ⟨g, 0, none⟩ = some (.int .i64 T.next.length) from (HW1.out.cell (p := ⟨g, 0, none⟩) (show g < wa.heap.size by omega)).trans CN.out)
        have CF1 := Lib.hid ((HW1.out.cell (p := ⟨g + 1, 0, none⟩) hsz).trans CF.out)
        have W3 := Lib.hid (below_step W2.out HW1.out)
        have HT3 := Lib.hid (HT1.out.below HW1.out)
        clear CN CF W2 HW1 HT1
        have HW := Lib.hid (Below.refl w1.heap.size w1)
        go_loopw [5, 6, 52] (fun _ _ j wx => ∃ k : Nat, k ≤ T.next.length ∧ j = .int .i64 k ∧ (∀ i (h : i < T.next.length), i < k → GoodRow T i) ∧ Below w1.heap.size w1 wx) (fun _ _ j _ => T.next.length - (intOf j).toNat)
        case atStart => exact ⟨0, by omega, rfl, R0.out, HW.out⟩
        case round =>
          clear HW R0
          obtain ⟨i, hi, rfl, ha, hw⟩ := hrel
          have HW := Lib.hid hw
          have HT1 := Lib.hid (HT3.out.below hw)
          have HA := Lib.hid ha
          have hb7 : T.next.length ≤ 300 := HD.out.n3
          by_cases hlt : i < T.next.length
          · have hlt2 : i < T.tag.length := by have := HD.out.nt; omega
            have t1 : decide ((i : Int) < (T.next.length : Nat)) = true := by simp; omega
            obtain ⟨b, off, A, c, rfl, hb, cr0, hri⟩ := (HRA.out.below hw).at_ hlt
            have cn1 : wr.cell? ⟨g, 0, none⟩ = some (.int .i64 T.next.length) := (hw.cell (p := ⟨g, 0, none⟩) (show g < w1.heap.size by omega)).trans CN1.out
            have cf1 := (hw.cell (p := ⟨g + 1, 0, none⟩) (show g + 1 < w1.heap.size by omega)).trans CF1.out
            obtain ⟨c0, c1, cr, an', cn', at2, ct2, c3, c4, hra, hta⟩ := HT1.out.cells
            clear cr
            obtain ⟨tb, toff, rfl, htb, ctg⟩ := hta.at_ hlt2
            have hlr : T.next[i].length ≤ 100000 ∨ ¬ (T.next[i].length : Int) = T.classes := by have := HD.out.c2; omega
            have HC := Lib.hid (fun (hle : T.next[i].length ≤ 100000) => has64_c 43 #[.pointer (some ⟨g + 1, 0, none⟩)] ent3 (fun x => !okB x T.next.length) T.next[i] hle _ wr hri (fun j hj W hW => ok3_c _ T.next.length g (g + 1) W ((hW.cell (p := ⟨g, 0, none⟩) (Nat.lt_of_lt_of_le (show g < w1.heap.size by omega) hw.size)).trans cn1) ((hW.cell (p := ⟨g + 1, 0, none⟩) (Nat.lt_of_lt_of_le (show g + 1 < w1.heap.size by omega) hw.size)).trans cf1)))
            have HRI := Lib.hid hri
            have N1 := Lib.hid (show ¬ (T.next[i].length : Int) = T.classes → ¬ RightP T from fun h p => h (p.rows i hlt))
            have N2 := Lib.hid (show T.tag[i] < -1 → ¬ RightP T from fun h p => by have := (p.tags i hlt2).1; omega)
            have N3 := Lib.hid (show 7 < T.tag[i] → ¬ RightP T from fun h p => by have := (p.tags i hlt2).2; omega)
            have N4 := Lib.hid (show T.next[i].any (fun x => !okB x T.next.length) = true → ¬ RightP T from fun h p => by
              obtain ⟨x, hx, hd⟩ := List.any_eq_true.1 h
              obtain ⟨j, hj, rfl⟩ := List.getElem_of_mem hx
              rw [(okB_iff _ _).2 (p.goes i hlt j hj)] at hd; exact nomatch hd)
            have YG := Lib.hid (show (T.next[i].length : Int) = T.classes → -1 ≤ T.tag[i] → T.tag[i] ≤ 7 → T.next[i].any (fun x => !okB x T.next.length) = false → ∀ j (h : j < T.next.length), j < i + 1 → GoodRow T j from fun h1 h2 h3 h4 j h hj => by
                by_cases e : j = i
                · subst e; exact ⟨fun _ => h1, fun _ => ⟨h2, h3⟩, fun _ k hk => (okB_iff _ _).1 (by have := List.any_eq_false.1 h4 _ (List.getElem_mem hk); simpa using this)⟩
                · exact HA.out j h (by omega))
            clear hra hri hta cn1 cf1 c1 ha hw
            generalize hrow : T.next[i] = row at *
            generalize T.tag[i] = tg at *
            clear hrow
            by_cases h1 : (row.length : Int) = T.classes
            case neg =>
              have t2 : ((row.length : Int) != T.classes) = true := by simpa using h1
              have HX := Lib.hid (N1.out h1)
              clear h1
              go_wp2_with fail
              go_returns
              exact ⟨by rw [rightB_no HX.out]; rfl, below_step W3.out HW.out⟩
            have t2 : ((row.length : Int) != T.classes) = false := by simpa using h1
            have H1 := Lib.hid h1
            clear h1
            by_cases h2 : tg < -1
            · have t3 : decide (tg < -1) = true := by simpa
              have HX := Lib.hid (N2.out h2)
              go_wp2_with fail
              go_returns
              exact ⟨by rw [rightB_no HX.out]; rfl, below_step W3.out HW.out⟩
            have t3 : decide (tg < -1) = false := by simpa using h2
            by_cases h3 : 7 < tg
            · have t4 : decide (7 < tg) = true := by simpa
              have HX := Lib.hid (N3.out h3)
              go_wp2_with fail
              go_returns
              exact ⟨by rw [rightB_no HX.out]; rfl, below_step W3.out HW.out⟩
            have t4 : decide (7 < tg) = false := by simpa using h3
            have hle : row.length ≤ 100000 := by have := HD.out.c2; have := H1.out; omega
            go_wp2_with fail
            refine (HC.out hle).mono ?_; rintro e w2 ⟨rfl, k2⟩
            have HW2 := Lib.hid (below_step HW.out k2)
            clear k2 HC
            cases hany : row.any (fun x => !okB x T.next.length) with
            | true =>
              have HX := Lib.hid (N4.out hany)
              clear hany
              go_wp2_with fail
              go_returns
              exact ⟨by rw [rightB_no HX.out]; rfl, below_step W3.out HW2.out⟩
            | false =>
              have HX := Lib.hid (YG.out H1.out (by omega) (by omega) hany)
              clear hany
              go_wp2_with fail
              go_roundw
              case rel => exact ⟨i + 1, by omega, by go_num, HX.out, HW2.out⟩
              case measure => simp [intOf]; omega
          · have t1 : decide ((i : Int) < (T.next.length : Nat)) = false := by simp; omega
            have HX := Lib.hid (show RightP T from ⟨HD.out.c1, HD.out.c2, HD.out.n3, HD.out.nt, HD.out.s1, HD.out.s2, HD.out.s3, HBS.out, fun j h => (HA.out j h (by omega)).len h, fun j h => (HA.out j (show j < T.next.length by rw [HD.out.nt]; exact h) (show j < i by have := HD.out.nt; omega)).tag h, fun j h => (HA.out j h (show j < i by omega)).goes h⟩)
            clear ha hw
            go_wp2_with fail
            go_returns
            exact ⟨by rw [rightB_yes HX.out]; rfl, below_step W3.out HW.out⟩
end Go.Proofs.Ytafcnehinanecaa
