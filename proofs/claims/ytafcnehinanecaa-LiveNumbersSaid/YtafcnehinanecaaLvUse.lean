/- live.useful. -/
import Derived.Test.YtafcnehinanecaaLvFrom
namespace Go.Proofs.Ytafcnehinanecaa
open Go.RowKit
theorem entU : ∀ (args : Array Value) (w : World), (callFunc 44 args).run Try.prog w = .ok (.enter 44 args) w := enters_of Try.func44 (by kernel_rfl) rfl
attribute [local irreducible] Calls
set_option maxHeartbeats 8000000 in
set_option maxRecDepth 100000 in
theorem luseful_c (T : Tb) (p : RightP T) (tb : Nat) (w : World) (h : TbAt w tb T) :
    Calls Try.prog 26 #[.pointer (some ⟨tb, 0, none⟩)] w fun e w' => ∃ ib, e = .returned (.slice (some ⟨ib, 0, none⟩) T.next.length T.next.length) ∧ Blk w' ib 4 (bools (liveL T)) ∧ w.heap.size ≤ ib ∧ Below w.heap.size w w' := by
  have HP := Lib.hid p
  have HT := Lib.hid h
  have hn3 : T.next.length ≤ 300 := p.n3
  have hc2 : T.classes ≤ 256 := p.c2
  have HNT := Lib.hid p.nt
  have htb := h.lt
  obtain ⟨c0, c1, cr, an, cn, at_, ct, c3, c4, hra, hta⟩ := HT.out.cells
  have C3 := Lib.hid c3
  have C4 := Lib.hid c4
  have HRA := Lib.hid hra
  have HTA := Lib.hid hta
  have hmk := run_make_rows T.next.length (by omega)
  have hmb := run_make_bools T.next.length (by omega)
  have W0 := Lib.hid (below_alloc (Below.refl w.heap.size w) (.cells (Array.replicate T.next.length (Value.slice none 0 0)) 24))
  have F0 := Lib.hid (FromAt.start (w := w) (n := T.next.length) (B := w.heap.size + 1) (Nat.lt_succ_self _))
  have hs0 : w.heap.size + 1 ≤ (w.alloc (.cells (Array.replicate T.next.length (Value.slice none 0 0)) 24)).heap.size := by rw [World.size_alloc]; exact Nat.le_refl _
  have P0 := Lib.hid (pf_start T)
  obtain ⟨i0, hi, hi0, hi1, hi2⟩ := info_parts info_int
  have eg := entU
  clear h p c0 c1 cr hra hta c4
  go_enter Try.func26, Try.ntmps26
  go_upto_region 2 with fail
  generalize hfb : w.heap.size = fb at *
  clear c3
  have c3 : (w.alloc (.cells (Array.replicate T.next.length (Value.slice none 0 0)) 24)).cell? ⟨tb, 258, none⟩ = some (.slice an T.next.length cn) := (W0.out.cell (p := ⟨tb, _, none⟩) htb).trans C3.out
  generalize w.alloc (.cells (Array.replicate T.next.length (Value.slice none 0 0)) 24) = wa at *
  generalize List.replicate T.next.length (Value.slice none 0 0) = vs0 at *
  generalize List.replicate T.next.length ([] : List Int) = fr0 at *
  go_wp2_with fail
  clear c3
  go_loopw [4, 5, 7, 27, 34] (fun _ _ _ i _ wx => ∃ (k : Nat) (vs : List Value) (fr : List (List Int)), k ≤ T.next.length ∧ i = .int .i64 k ∧ PF T k 0 fr ∧ FromAt wx (fb + 1) fb vs fr ∧ Below fb w wx) (fun _ _ _ i _ _ => T.next.length - (intOf i).toNat)
  case atStart => exact ⟨0, vs0, fr0, by omega, rfl, P0.out, F0.out, W0.out⟩
  case round =>
    clear P0 F0 W0 hs0
    obtain ⟨k, vs, fr, hk, rfl, hpf, hfr, hw⟩ := hrel
    have PFH := Lib.hid hpf
    have FR := Lib.hid hfr
    have HW := Lib.hid hw
    clear hpf hfr hw
    by_cases hlt : k < T.next.length
    · have t1 : decide (k < T.next.length) = true := by simpa
      obtain ⟨nb, noff, A, rc, rfl, hnb, crow, hri⟩ := HRA.out.at_ hlt
      have HROW := Lib.hid (HP.out.row (s := (k : Int)) (by omega) (by omega))
      have RL := Lib.hid (HP.out.rowLen (s := (k : Int)) (by omega) (by omega))
      have RG := Lib.hid (fun x hx => (HP.out.rowGoes (s := (k : Int)) (k := x) (by omega) (by omega) hx).2)
      have HROW2 := Lib.hid (show T.next[k]'hlt = rowI T k from HROW.out.symm)
      rw [HROW2.out] at crow hri
      have HRI := Lib.hid hri
      have crow : wr.cell? ⟨nb, noff + k, none⟩ = some (.slice A (rowI T k).length rc) := (HW.out.cell (p := ⟨nb, _, none⟩) (show nb < fb by omega)).trans crow
      have SK := Lib.hid (fun (c : Nat) (fr : List (List Int)) (h : PF T k c fr) (hc : c < (rowI T k).length) (hx : ¬ 0 ≤ (rowI T k)[c]) => pf_skip h hc hx)
      have SP := Lib.hid (fun (c : Nat) (fr : List (List Int)) (h : PF T k c fr) (hc : c < (rowI T k).length) (xn : Nat) (hx : (rowI T k)[c] = (xn : Int)) (hxn : xn < fr.length) => pf_push h hc hx hxn)
      have SN := Lib.hid (fun (c : Nat) (fr : List (List Int)) (h : PF T k c fr) (hc : (rowI T k).length = c) (hl : c ≤ 256) => pf_next h hc hl)
      clear HROW hri
      generalize rowI T k = row at *
      have hrl : row.length ≤ 256 := by have := RL.out; omega
      go_wp2_with fail
      clear crow
      go_loopw [7, 34] (fun _ j wx => ∃ (c : Nat) (vs : List Value) (fr : List (List Int)), c ≤ row.length ∧ j = .int .i64 c ∧ PF T k c fr ∧ FromAt wx (fb + 1) fb vs fr ∧ Below fb w wx) (fun _ j _ => row.length - (intOf j).toNat)
      case atStart => exact ⟨0, vs, fr, by omega, rfl, PFH.out, FR.out, HW.out⟩
      case round =>
        clear PFH FR HW
        obtain ⟨c, vs, fr, hc, rfl, hpf, hfr, hw⟩ := hrel
        have PFH := Lib.hid hpf
        have FR := Lib.hid hfr
        have HW := Lib.hid hw
        by_cases hlc : c < row.length
        · have t2 : decide (c < row.length) = true := by simpa
          obtain ⟨xb, xoff, rfl, hxb, cx⟩ := HRI.out.at_ hlc
          have cx : wr.cell? ⟨xb, xoff + c, none⟩ = some (.int .i64 row[c]) := (hw.cell (p := ⟨xb, _, none⟩) (show xb < fb by omega)).trans cx
          have hx2 := RG.out _ (List.getElem_mem hlc)
          have SK1 := Lib.hid (SK.out c fr hpf hlc)
          have SP1 := Lib.hid (SP.out c fr hpf hlc)
          clear hpf hfr hw
          generalize row[c] = x at *
          by_cases hx0 : 0 ≤ x
          · have t3 : decide (0 ≤ x) = true := by simpa
            obtain ⟨xn, rfl⟩ := Int.eq_ofNat_of_zero_le hx0
            have hxn : xn < T.next.length := by omega
            have hxf : xn < fr.length := by rw [PFH.out.1]; exact hxn
            have hxv : xn < vs.length := by rw [FR.out.len]; exact hxf
            have t4 : decide (xn < T.next.length) = true := by simpa
            have cf : wr.cell? ⟨fb, xn, none⟩ = some vs[xn] := (FR.out.hb.cell xn).trans (by rw [List.getElem?_toArray, List.getElem?_eq_getElem hxv])
            have HO := Lib.hid (FR.out.own xn hxf hxv)
            have SP2 := Lib.hid (SP1.out xn rfl hxf)
            have PU := Lib.hid (fun (v' : Value) (w' : World) o q hw => FR.out.push (w' := w') hxf hxv (x := (k : Int)) (v' := v') o q hw)
            have hfl : fr[xn].length ≤ 100000 := by
              have := (PFH.out.2 xn hxn).1
              rw [List.getD_eq_getElem?_getD, List.getElem?_eq_getElem hxf] at this
              have h2 : fr[xn].length ≤ k * 256 + c := this
              omega
            have HB := Lib.hid FR.out.hb
            have hsz : fb + 1 ≤ wr.heap.size := FR.out.hb.lt
            clear SP1 SK1 PFH FR hx2
            generalize fr[xn] = fx at *
            generalize vs[xn] = v at *
            obtain ⟨a7, c7, rfl, _⟩ := own_form HO.out
            go_wp2_with (at_builtin; refine wpList_grow rfl 24 3 (.tmp 45) (.tmp 47) rfl i0 (.int .i64 0) 8 Try.underlying24 hi hi0 hi1 hi2 rfl (by decide) (fb + 1) (ints fx) (.int .i64 k) rfl _ fx.length rfl HO.out rfl (by omega) hsz ?_; intro v5 w2 ho hgr hbel hwh; obtain ⟨a5, c5, rfl, _⟩ := own_form ho; have FR2 := Lib.hid (PU.out _ _ ho hgr hwh); have B2 := HB.out.grown hgr (own_ne HO.out (Nat.lt_succ_self _)); have e2 := (B2.cell xn).trans ((HB.out.cell xn).symm.trans cf); have f2 := B2.free xn; have HW2 := Lib.hid ((HW.out.trans (hbel.mono (Nat.le_succ _))).setCell (p := ⟨fb, xn, none⟩) (Nat.le_refl _) (.slice a5 (fx.length + 1) c5)); clear ho hgr hbel hwh B2 cx)
            go_roundw
            case rel => exact ⟨c + 1, _, _, by omega, by go_num, SP2.out, FR2.out, HW2.out⟩
            case measure => simp [intOf]; omega
          · have t3 : decide (0 ≤ x) = false := by simpa using hx0
            have PFN := Lib.hid (SK1.out (by omega))
            clear SP1 SK1 PFH
            go_wp2_with fail
            go_roundw
            case rel => exact ⟨c + 1, _, _, by omega, by go_num, PFN.out, FR.out, HW.out⟩
            case measure => simp [intOf]; omega
        · have t2 : decide (c < row.length) = false := by simpa using hlc
          have PFN := Lib.hid (SN.out c fr hpf (by omega) (by omega))
          clear hpf hfr hw
          go_wp2_with fail
          go_roundw
          case rel => exact ⟨k + 1, _, _, by omega, by go_num, PFN.out, FR.out, HW.out⟩
          case measure => simp [intOf]; omega
    · have t1 : decide (k < T.next.length) = false := by simpa using hlt
      have PR := Lib.hid (pf_end (show PF T T.next.length 0 fr from by have := PFH.out; rwa [show k = T.next.length by omega] at this) hn3)
      have hsf : fb < wr.heap.size := FR.out.hb.lt
      have c3 : wr.cell? ⟨tb, 258, none⟩ = some (.slice an T.next.length cn) := (HW.out.cell (p := ⟨tb, _, none⟩) htb).trans C3.out
      clear PFH HRA hmk
      go_upto_region 15 with fail
      clear hmb c3
      generalize wr = w0 at *
      have HIB := Lib.hid (Blk.made w0 4 (bools (List.replicate T.next.length false)))
      have HI8 := Lib.hid (Blk.made (w0.alloc (.cells (bools (List.replicate T.next.length false)) 4)) 45 #[.slice (some ⟨w0.heap.size, 0, none⟩) T.next.length T.next.length])
      have HW9 := Lib.hid (Blk.made ((w0.alloc (.cells (bools (List.replicate T.next.length false)) 4)).alloc (.cells #[.slice (some ⟨w0.heap.size, 0, none⟩) T.next.length T.next.length] 45)) 24 #[.slice none 0 0])
      have BZ := Lib.hid (below_alloc (below_alloc (below_alloc (Below.refl w0.heap.size w0) (.cells (bools (List.replicate T.next.length false)) 4)) (.cells #[.slice (some ⟨w0.heap.size, 0, none⟩) T.next.length T.next.length] 45)) (.cells #[.slice none 0 0] 24))
      have M0 := Lib.hid (show MeetAt (((w0.alloc (.cells (bools (List.replicate T.next.length false)) 4)).alloc (.cells #[.slice (some ⟨w0.heap.size, 0, none⟩) T.next.length T.next.length] 45)).alloc (.cells #[.slice none 0 0] 24)) (w0.heap.size + 1 + 1 + 1) (w0.heap.size + 1) w0.heap.size (w0.heap.size + 1 + 1) (List.replicate T.next.length false) [] from
        ⟨(((HI8.out.cast (by simp)).alloc _).cast rfl).at_eq (by simp), (HIB.out.alloc _).alloc _, ⟨_, HW9.out.at_eq (by simp), World.ownsRow_nil _ _ _ _⟩, by omega, by omega, by omega, by omega, by omega, by omega⟩)
      clear HIB HI8 HW9
      have O0 := Lib.hid (show MO T fr (List.replicate T.next.length false) [] from ⟨sound_start T, by simp, fun x hx => (nomatch hx), fun k hk hm => by
        exfalso
        rw [List.getD_eq_getElem?_getD, List.getElem?_replicate] at hm
        split at hm <;> exact nomatch hm⟩)
      have c4 := ((HW.out.trans (BZ.out.mono (Nat.le_of_lt hsf))).cell (p := ⟨tb, 259, none⟩) htb).trans C4.out
      generalize List.replicate T.next.length false = l0 at *
      generalize ((w0.alloc _).alloc _).alloc _ = wz at *
      generalize hib : w0.heap.size = ib at *
      go_wp2_with fail
      clear c4
      go_loopw [11, 12, 64] (fun _ _ i wx => ∃ (k : Nat) (m : List Bool) (wt : List Int), k ≤ T.tag.length ∧ i = .int .i64 k ∧ MO T fr m wt ∧ (∀ j, j < k → 0 ≤ tagI T j → m.getD j false = true) ∧ MeetAt wx (ib + 1 + 1 + 1) (ib + 1) ib (ib + 1 + 1) m wt ∧ Below ib w0 wx) (fun _ _ i _ => T.tag.length - (intOf i).toNat)
      case atStart => exact ⟨0, l0, [], by omega, rfl, O0.out, fun j hj => absurd hj (by omega), M0.out, BZ.out⟩
      case round =>
        clear O0 M0 BZ
        obtain ⟨j, m, wt, hj, rfl, ho, htg, hm, hw⟩ := hrel
        have MOH := Lib.hid ho
        have TG := Lib.hid htg
        have MA := Lib.hid hm
        have HWJ := Lib.hid hw
        have hml : m.length = T.next.length := ho.sound.1
        have hwl : wt.length ≤ 100000 := by have := ho.room; have := List.count_le_length (l := m) (a := true); omega
        clear ho htg hm hw
        by_cases hlj : j < T.tag.length
        · have t2 : decide (j < T.tag.length) = true := by simpa
          have hjn : j < T.next.length := by rw [HNT.out]; exact hlj
          obtain ⟨tb2, toff, rfl, htb2, ctg⟩ := HTA.out.at_ hlj
          have HTG := Lib.hid (show tagI T j = T.tag[j] from by unfold tagI; rw [show ((j : Int)).toNat = j from rfl, List.getD_eq_getElem?_getD, List.getElem?_eq_getElem hlj]; rfl)
          rw [← HTG.out] at ctg
          have ctg : wr.cell? ⟨tb2, toff + j, none⟩ = some (.int .i64 (tagI T j)) := ((HW.out.trans (HWJ.out.mono (Nat.le_of_lt hsf))).cell (p := ⟨tb2, _, none⟩) (show tb2 < fb by omega)).trans ctg
          have LV := Lib.hid (show 0 ≤ tagI T j → Live T j from fun h => .acc j hjn h)
          clear HTG
          generalize htgj : tagI T j = tg at *
          have HTJ := Lib.hid htgj
          clear htgj
          by_cases h0 : 0 ≤ tg
          · have t3 : decide (0 ≤ tg) = true := by simpa
            have HC := Lib.hid (meet_c m wt j (by omega) hwl (ib + 1 + 1 + 1) (ib + 1) ib (ib + 1 + 1) ib wr (by have := MA.out.hw; obtain ⟨_, h, _⟩ := this; exact h.lt) (by omega) (by omega) (by omega) MA.out)
            have MO2 := Lib.hid (MOH.out.meet hjn (LV.out h0))
            have TG2 := Lib.hid (show ∀ i, i < j + 1 → 0 ≤ tagI T i → (m.set j true).getD i false = true from fun i hi ht => by
              by_cases e : i = j
              · subst e; exact mk_here (by omega)
              · exact mk_set (j := (i : Int)) j (TG.out i (by omega) ht))
            clear MOH TG MA LV
            go_wp2_with fail
            refine HC.out.mono ?_; rintro e w1 ⟨rfl, h1, h2⟩
            have MA2 := Lib.hid h1
            have HWJ2 := Lib.hid (HWJ.out.trans h2)
            clear h1 h2
            go_wp2_with fail
            go_roundw
            case rel => exact ⟨j + 1, _, _, by omega, by go_num, MO2.out, TG2.out, MA2.out, HWJ2.out⟩
            case measure => simp [intOf]; omega
          · have t3 : decide (0 ≤ tg) = false := by simpa using h0
            have TG2 := Lib.hid (show ∀ i, i < j + 1 → 0 ≤ tagI T i → m.getD i false = true from fun i hi ht => by
              by_cases e : i = j
              · subst e; rw [HTJ.out] at ht; exact absurd ht h0
              · exact TG.out i (by omega) ht)
            clear LV TG
            go_wp2_with fail
            go_roundw
            case rel => exact ⟨j + 1, _, _, by omega, by go_num, MOH.out, TG2.out, MA.out, HWJ.out⟩
            case measure => simp [intOf]; omega
        · have t2 : decide (j < T.tag.length) = false := by simpa using hlj
          have TGA := Lib.hid (show ∀ i, i < T.next.length → 0 ≤ tagI T i → m.getD i false = true from fun i hi ht => TG.out i (by rw [HNT.out] at hi; omega) ht)
          have hgg : 2 * m.count false + wt.length ≤ 3 * T.next.length := by
            have := MOH.out.room
            have := List.count_le_length (l := m) (a := true)
            have := List.count_le_length (l := m) (a := false)
            omega
          clear TG HTA
          go_wp2_with fail
          go_loopg [13, 15, 94] (3 * T.next.length) (fun gg _ _ _ wx => ∃ (m : List Bool) (wt : List Int), 2 * m.count false + wt.length ≤ gg ∧ MO T fr m wt ∧ (∀ j, j < T.next.length → 0 ≤ tagI T j → m.getD j false = true) ∧ MeetAt wx (ib + 1 + 1 + 1) (ib + 1) ib (ib + 1 + 1) m wt ∧ Below ib w0 wx)
          case atStart => exact ⟨m, wt, hgg, MOH.out, TGA.out, MA.out, HWJ.out⟩
          case round =>
            clear MOH TGA MA HWJ hgg
            obtain ⟨m, wt, hgg, ho, htg, hm, hw⟩ := hrel
            have MOH := Lib.hid ho
            have TGA := Lib.hid htg
            have MA := Lib.hid hm
            have HWJ := Lib.hid hw
            have hml : m.length = T.next.length := ho.sound.1
            have hwl : wt.length ≤ 100000 := by have := ho.room; have := List.count_le_length (l := m) (a := true); omega
            obtain ⟨wv, h9, hown⟩ := hm.hw
            obtain ⟨a9, c9, rfl, _⟩ := own_form hown
            have e9 := h9.cell 0
            have f9 := h9.free 0
            simp at e9
            have H9 := Lib.hid h9
            have HO := Lib.hid hown
            clear ho htg hm hw h9 hown
            by_cases hwt : wt = []
            · subst hwt
              have HE := Lib.hid (MOH.out.done PR.out TGA.out)
              have e8 := MA.out.hi.cell 0
              simp at e8
              clear f9
              go_wp2_with fail
              go_returns
              refine ⟨ib, rfl, by rw [← HE.out]; exact MA.out.hb, by omega, by rw [hfb]; exact HW.out.trans (HWJ.out.mono (Nat.le_of_lt hsf))⟩
            · obtain ⟨wt0, el, rfl⟩ : ∃ wt0 el, wt = wt0 ++ [el] := by
                rcases List.eq_nil_or_concat wt with h | ⟨a, b, h⟩
                · exact absurd h hwt
                · exact ⟨a, b, by rw [h, List.concat_eq_append]⟩
              obtain ⟨el0, el1, _⟩ := MOH.out.inn el (by simp)
              obtain ⟨e, rfl⟩ := Int.eq_ofNat_of_zero_le el0
              obtain ⟨hmi, hle, hen⟩ := MOH.out.pop
              have MIH := Lib.hid hmi
              have LE := Lib.hid hle
              have hl1 : (wt0 ++ [(e : Int)]).length = wt0.length + 1 := by simp
              rw [hl1] at e9 hgg hwl HO
              obtain ⟨gb, hgb, hgb1, hgb2⟩ : ∃ gb, a9 = some ⟨gb, 0, none⟩ ∧ ib + 1 + 1 + 1 ≤ gb ∧ wt0.length + 1 ≤ c9 := by
                rcases HO.out.2 with ⟨_, h⟩ | ⟨g, cap, cur, hv, hb, hg, hnc, _⟩
                · omega
                · injection hv with e1 e2 e3
                  exact ⟨g, e1, hb, by omega⟩
              subst hgb
              have ce := HO.out.cellAt wt0.length (by omega)
              rw [show (ints (wt0 ++ [(e : Int)]))[wt0.length]? = some (.int .i64 (e : Int)) from by rw [ints_app, List.getElem?_append_right (by unfold ints; simp)]; unfold ints; simp] at ce
              have HO2 := Lib.hid (own_cut HO.out)
              rw [show (ints (wt0 ++ [(e : Int)])).take wt0.length = ints wt0 from by rw [ints_app, List.take_append_of_le_length (by unfold ints; simp), List.take_of_length_le (by unfold ints; simp)]] at HO2
              have M1 := Lib.hid (show MeetAt (wr.setCell ⟨ib + 1 + 1, 0, none⟩ (.slice (some ⟨gb, 0, none⟩) wt0.length c9)) (ib + 1 + 1 + 1) (ib + 1) ib (ib + 1 + 1) m wt0 from
                ⟨MA.out.hi.far (by simp) _, MA.out.hb.far (by simp; omega) _, ⟨_, H9.out.set 0 _, own_put HO2.out (by omega)⟩, by omega, by omega, by omega, by omega, by omega, by omega⟩)
              have HW1 := Lib.hid (HWJ.out.setCell (p := ⟨ib + 1 + 1, 0, none⟩) (show ib ≤ ib + 1 + 1 by omega) (.slice (some ⟨gb, 0, none⟩) wt0.length c9))
              have hle2 : wt0.length ≤ c9 := by omega
              clear hmi hle hwt MOH MA H9 HO HO2
              go_upto_region 24 with fail
              clear ce e9 f9 HWJ
              generalize wr.setCell _ _ = wy at *
              have hef : e < fr.length := by rw [PR.out.1]; exact hen
              have hev : e < vs.length := by rw [FR.out.len]; exact hef
              have FY := Lib.hid (FR.out.below (show Below w0.heap.size w0 wy from by rw [hib]; exact HW1.out))
              have t5 : decide (e < T.next.length) = true := by simpa
              have cf : wy.cell? ⟨fb, e, none⟩ = some vs[e] := (FY.out.hb.cell e).trans (by rw [List.getElem?_toArray, List.getElem?_eq_getElem hev])
              have HO := Lib.hid (FR.out.own e hef hev)
              have PRE := Lib.hid (PR.out.2 e hef)
              have ST := Lib.hid (fun (m : List Bool) (wt : List Int) (q i : Nat) (h : MI T fr m wt e q) (hq : q < fr[e].length) (hx : fr[e][q] = (i : Int)) => h.step PR.out LE.out hef hq hx)
              have SH := Lib.hid (fun (m : List Bool) (wt : List Int) (q : Nat) (h : MI T fr m wt e q) (hq : fr[e].length ≤ q) => h.shut fun _ => hq)
              generalize fr[e] = fe at *
              generalize vs[e] = ve at *
              have hfl : fe.length ≤ 100000 := PRE.out.1
              obtain ⟨a5, c5, rfl, _⟩ := own_form HO.out
              have HI := Lib.hid ((IntsAt.own HO.out).mono (Nat.zero_le _))
              go_wp2_with fail
              clear cf
              go_loopw [15, 94] (fun _ j wx => ∃ (q : Nat) (m : List Bool) (wt : List Int), q ≤ fe.length ∧ j = .int .i64 q ∧ 2 * m.count false + wt.length + 1 ≤ gk ∧ MI T fr m wt e q ∧ (∀ j, j < T.next.length → 0 ≤ tagI T j → m.getD j false = true) ∧ MeetAt wx (ib + 1 + 1 + 1) (ib + 1) ib (ib + 1 + 1) m wt ∧ Below ib w0 wx) (fun _ j _ => fe.length - (intOf j).toNat)
              case atStart => exact ⟨0, m, wt0, by omega, rfl, hgg, MIH.out, TGA.out, M1.out, HW1.out⟩
              case round =>
                clear MIH TGA M1 HW1 FY hgg
                obtain ⟨q, m, wt, hq, rfl, hgg, hi, htg, hm, hw⟩ := hrel
                have MIH := Lib.hid hi
                have TGA := Lib.hid htg
                have MA := Lib.hid hm
                have HWJ := Lib.hid hw
                have hml : m.length = T.next.length := hi.sound.1
                have hwl : wt.length ≤ 100000 := by have := hi.room; have := List.count_le_length (l := m) (a := true); omega
                clear hi htg hm
                by_cases hlq : q < fe.length
                · have t6 : decide (q < fe.length) = true := by simpa
                  obtain ⟨xb, xoff, rfl, hxb, cx⟩ := HI.out.at_ hlq
                  have cx : wr.cell? ⟨xb, xoff + q, none⟩ = some (.int .i64 fe[q]) := (hw.cell (p := ⟨xb, _, none⟩) (show xb < ib by omega)).trans cx
                  obtain ⟨x0, x1, _⟩ := (PRE.out.2 _).1 (List.getElem_mem hlq)
                  have ST1 := Lib.hid (fun i hx => ST.out m wt q i MIH.out hlq hx)
                  clear hw MIH
                  generalize fe[q] = x at *
                  obtain ⟨xn, rfl⟩ := Int.eq_ofNat_of_zero_le x0
                  obtain ⟨hxn, hmi⟩ := ST1.out xn rfl
                  have MIH := Lib.hid hmi
                  have HC := Lib.hid (meet_c m wt xn (by omega) hwl (ib + 1 + 1 + 1) (ib + 1) ib (ib + 1 + 1) ib wr (by have := MA.out.hw; obtain ⟨_, h, _⟩ := this; exact h.lt) (by omega) (by omega) (by omega) MA.out)
                  have TG2 := Lib.hid (show ∀ i, i < T.next.length → 0 ≤ tagI T i → (m.set xn true).getD i false = true from fun i hi ht => mk_set (j := (i : Int)) xn (TGA.out i hi ht))
                  have HGG := Lib.hid (meetW_len (m := m) (wt := wt) (i := xn) (by omega))
                  clear hmi ST1 TGA MA
                  go_wp2_with fail
                  refine HC.out.mono ?_; rintro e2 w1 ⟨rfl, h1, h2⟩
                  have MA2 := Lib.hid h1
                  have HWJ2 := Lib.hid (HWJ.out.trans h2)
                  clear h1 h2
                  go_wp2_with fail
                  go_roundw
                  case rel => exact ⟨q + 1, _, _, by omega, by go_num, by have := HGG.out; omega, MIH.out, TG2.out, MA2.out, HWJ2.out⟩
                  case measure => simp [intOf]; omega
                · have t6 : decide (q < fe.length) = false := by simpa using hlq
                  have MOH := Lib.hid (SH.out m wt q MIH.out (by omega))
                  clear hw MIH
                  go_wp2_with fail
                  go_roundg (2 * m.count false + wt.length)
                  case measure => omega
                  case rel => exact ⟨m, wt, Nat.le_refl _, MOH.out, TGA.out, MA.out, HWJ.out⟩
end Go.Proofs.Ytafcnehinanecaa
