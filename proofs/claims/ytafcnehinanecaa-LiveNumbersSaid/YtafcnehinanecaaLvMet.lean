/- live.met: the states as they are met, over those that a predicate lets. -/
import Derived.Test.YtafcnehinanecaaTabOrd
import Derived.Test.YtafcnehinanecaaTabAny
import Derived.Test.YtafcnehinanecaaSparse3
namespace Go.Proofs.Ytafcnehinanecaa
open Go.RowKit
theorem nats_any (l : List Nat) (x : Int) : (nats l).any (· == x) = hasL l x := by
  unfold nats hasL; rw [List.any_map]; rfl
theorem add_met {s : Sp} {may : Int → Bool} {x : Int} (h0 : 0 ≤ x) (hn : x < s.n) (hm : may x = true) : nats (s.add x).l = addIf may (nats s.l) x := by
  rw [Sp.add_l]
  unfold addL addIf canAdd
  rw [nats_any, hm, decide_eq_true h0, decide_eq_true hn]
  cases hasL s.l x with
  | true => rfl
  | false =>
    simp only [Bool.not_false, Bool.and_self, if_true]
    unfold nats
    rw [List.map_append]
    simp; omega
theorem at_met {l : List Nat} {k : Nat} (h : k < (nats l).length) : atL l (k : Int) = (nats l)[k] := by
  have h2 : k < l.length := by rwa [nats_len] at h
  unfold atL
  rw [if_neg (by omega), dif_pos (by simpa using h2)]
  simp [nats]
theorem below_only {S : List Nat} {w a b : World} (h : Below w.heap.size w a) (k : Only S a b) (hS : ∀ x ∈ S, w.heap.size ≤ x) : Below w.heap.size w b := ((Only.ofBelow S h).trans k).below hS
attribute [local irreducible] Calls
set_option maxHeartbeats 4000000 in
set_option maxRecDepth 100000 in
theorem met_c (g : Nat) (lb : Array Value) (eg : ∀ args w, (callFunc g args).run Try.prog w = .ok (.enter g args) w) (may : Int → Bool) (T : Tb) (p : RightP T) (tb : Nat) (w : World) (h : TbAt w tb T)
    (hp : ∀ k : Int, 0 ≤ k → k < T.next.length → PredB g lb (.int .i64 k) (may k) w) :
    Calls Try.prog 28 #[.pointer (some ⟨tb, 0, none⟩), .func (.func g) #[] lb] w fun e w' => ∃ v, e = .returned v ∧ Own w' w.heap.size v (order T may) ∧ Below w.heap.size w w' := by
  have HP := Lib.hid p
  have HT := Lib.hid h
  have PR := Lib.hid hp
  have hn3 : T.next.length ≤ 300 := p.n3
  have hc2 : T.classes ≤ 256 := p.c2
  have hst : -1 ≤ T.start ∧ T.start < T.next.length := ⟨p.s1, p.s2⟩
  have htb := h.lt
  have NC := Lib.hid (snew_c T.next.length (by omega))
  have AC := Lib.hid (fun s h x g r w hs => sadd_c s h x g r w hs)
  have LC := Lib.hid (fun s g r w hs => slen_c s g r w hs)
  have TC := Lib.hid (fun s h x g r w hs => sat_c s h x g r w hs)
  have SC := Lib.hid (fun s h g r w hs => slist_c s h g r w hs)
  obtain ⟨c0, c1, cr, an, cn, at_, ct, c3, c4, hra, hta⟩ := HT.out.cells
  have C1 := Lib.hid c1
  have C3 := Lib.hid c3
  have HRA := Lib.hid hra
  clear h p hp c0 cr hra hta c4
  go_enter Try.func28, Try.ntmps28
  go_upto_region 2 with (go_at_call 36; refine (NC.out _).mono ?_; rintro e wb ⟨q, rfl, hsp, hq, hq2, k0⟩; have SP0 := Lib.hid hsp; have HW := Lib.hid k0; clear hsp k0)
  have c1 : wb.cell? ⟨tb, 1, none⟩ = some (.int .i64 T.start) := (HW.out.cell (p := ⟨tb, _, none⟩) htb).trans c1
  generalize hr : w.heap.size = r at SP0 hq
  have hr2 : w.heap.size ≤ r := by omega
  clear hr
  go_cut [31] from 19 to 31 (fun v wx => v = .bool (decide (0 ≤ T.start) && may T.start) ∧ SpAt wx q r (Sp.new T.next.length) ∧ Below w.heap.size w wx)
  case first =>
    by_cases h1 : 0 ≤ T.start
    · have t1 : decide (0 ≤ T.start) = true := by simpa
      have HX := Lib.hid (show (decide (0 ≤ T.start) && may T.start) = may T.start from by rw [t1]; rfl)
      have PX := Lib.hid (PR.out T.start h1 hst.2 wb HW.out)
      go_wp2_with fail
      refine PX.out.mono ?_; rintro e w1 ⟨rfl, k1⟩
      have SP1 := Lib.hid (SP0.out.below k1)
      have HW1 := Lib.hid (below_step HW.out k1)
      clear k1
      generalize may T.start = b at *
      go_wp2_with fail
      go_meet
      exact ⟨by rw [HX.out], SP1.out, HW1.out⟩
    · have t1 : decide (0 ≤ T.start) = false := by simpa using h1
      have HX := Lib.hid (show (decide (0 ≤ T.start) && may T.start) = false from by rw [t1]; rfl)
      go_wp2_with fail
      go_meet
      exact ⟨by rw [HX.out], SP0.out, HW.out⟩
  case rest =>
    clear SP0 HW c1
    obtain ⟨rfl, hsp, hw⟩ := hcut
    rename World => wc
    have SP0 := Lib.hid hsp
    have HW := Lib.hid hw
    clear hsp hw
    have c1 : wc.cell? ⟨tb, 1, none⟩ = some (.int .i64 T.start) := (HW.out.cell (p := ⟨tb, _, none⟩) htb).trans C1.out
    have M0 := Lib.hid (show metN T may 0 = if decide (0 ≤ T.start) && may T.start then [T.start] else [] from by rw [metN])
    generalize hbb : (decide (0 ≤ T.start) && may T.start) = b at *
    go_upto_if 31 with fail
    go_cut [5] from 32 to 37 (fun v wx => v = .pointer (some ⟨q, 0, none⟩) ∧ ∃ s : Sp, s.ok ∧ s.n = T.next.length ∧ nats s.l = metN T may 0 ∧ SpAt wx q r s ∧ Below w.heap.size w wx)
    case first =>
      cases b with
      | true =>
        have ME := Lib.hid (show metN T may 0 = [T.start] from by have := M0.out; rwa [if_pos rfl] at this)
        simp only [Bool.and_eq_true, decide_eq_true_eq] at hbb
        have AX := Lib.hid (AC.out (Sp.new T.next.length) (Sp.new_ok (by omega)) T.start q r wc SP0.out)
        have AE := Lib.hid (show nats ((Sp.new T.next.length).add T.start).l = [T.start] from by
          rw [add_met hbb.1 hst.2 hbb.2]
          exact addIf_yes hbb.1 hbb.2 rfl)
        have AN := Lib.hid (show ((Sp.new T.next.length).add T.start).n = T.next.length from Sp.add_n _ _)
        have AO := Lib.hid (show ((Sp.new T.next.length).add T.start).ok from Sp.add_ok (Sp.new_ok (by omega)) _)
        clear M0 hbb
        go_wp2_with (go_at_call 37; refine AX.out.mono ?_; rintro e w1 ⟨rfl, h1, h2⟩; have SP1 := Lib.hid h1; have HW1 := Lib.hid (below_only HW.out h2 (by simp; omega)); clear h1 h2)
        go_meet
        exact ⟨rfl, _, AO.out, AN.out, AE.out.trans ME.out.symm, SP1.out, HW1.out⟩
      | false =>
        have ME := Lib.hid (show metN T may 0 = [] from by have := M0.out; rwa [if_neg (by simp)] at this)
        clear M0
        go_wp2_with fail
        go_meet
        exact ⟨rfl, _, Sp.new_ok (by omega), rfl, ME.out.symm, SP0.out, HW.out⟩
    case rest =>
      clear SP0 HW M0 c1
      obtain ⟨rfl, hsp⟩ := hcut
      have SP0 := Lib.hid hsp
      clear hsp hbb
      rename World => wd
      go_wp2_with fail
      go_loopw [7, 9, 54] (fun i _ _ wx => ∃ (k : Nat) (s : Sp), k ≤ s.l.length ∧ i = .int .i64 k ∧ s.ok ∧ s.n = T.next.length ∧ nats s.l = metN T may k ∧ SpAt wx q r s ∧ Below w.heap.size w wx) (fun i _ _ _ => T.next.length + 1 - (intOf i).toNat)
      case atStart =>
        obtain ⟨s, h1, h2, h3, h4, h5⟩ := SP0.out
        exact ⟨0, s, by omega, rfl, h1, h2, h3, h4, h5⟩
      case round =>
        clear SP0
        obtain ⟨k, s, hk, rfl, hok, hn, hl, hsp, hw⟩ := hrel
        have OK := Lib.hid hok
        have HL := Lib.hid hl
        have SP := Lib.hid hsp
        have HW := Lib.hid hw
        have hsm : s.l.length ≤ T.next.length := by rw [← hn]; exact Sp.len_le hok
        have hnl : (nats s.l).length = s.l.length := nats_len _
        have LX := Lib.hid (LC.out s q r wr hsp)
        clear hok hl hsp
        by_cases hlt : k < s.l.length
        · have t1 : decide (k < s.l.length) = true := by simpa
          have hkl : k < (metN T may k).length := by rw [← HL.out, hnl]; exact hlt
          have HST := Lib.hid (metN_step hkl)
          have HME := Lib.hid (HP.out.meets may k)
          have AT := Lib.hid (show atL s.l (k : Int) = (metN T may k)[k] from by rw [at_met (by rw [hnl]; exact hlt)]; simp only [HL.out])
          obtain ⟨s0, s1, _⟩ := HME.out.2 _ (List.getElem_mem hkl)
          have HROW := Lib.hid (HP.out.row s0 s1)
          have RL := Lib.hid (HP.out.rowLen s0 s1)
          have RG := Lib.hid (fun x hx => (HP.out.rowGoes (k := x) s0 s1 hx).2)
          generalize (metN T may k)[k] = sx at *
          obtain ⟨sn, rfl⟩ := Int.eq_ofNat_of_zero_le s0
          have hsn : sn < T.next.length := by omega
          have HROW2 := Lib.hid (show T.next[sn]'hsn = rowI T sn from HROW.out.symm)
          obtain ⟨nb, noff, A, rc, rfl, hnb, crow, hri⟩ := HRA.out.at_ hsn
          rw [HROW2.out] at crow hri
          generalize rowI T sn = row at *
          have hrl : row.length ≤ 256 := by have := RL.out; omega
          have d3 : ∀ x : Ext wr, x.v.cell? ⟨tb, 258, none⟩ = some (.slice (some ⟨nb, noff, none⟩) T.next.length cn) := fun x => x.cell ((HW.out.cell (p := ⟨tb, _, none⟩) htb).trans C3.out)
          have dr : ∀ x : Ext wr, x.v.cell? ⟨nb, noff + sn, none⟩ = some (.slice A row.length rc) := fun x => x.cell ((HW.out.cell (p := ⟨nb, _, none⟩) hnb).trans crow)
          have HRI := Lib.hid hri
          have TX := Lib.hid (show ∀ x : Ext wr, Calls Try.prog 48 #[.pointer (some ⟨q, 0, none⟩), .int .i64 k] x.v fun e w' => e = .returned (.int .i64 sn) ∧ Below x.v.heap.size x.v w' from fun x => (TC.out s OK.out (k : Int) q r x.v (SP.out.below x.h)).mono fun e w' h => ⟨by rw [h.1, AT.out], h.2 ▸ Below.refl _ _⟩)
          clear HROW crow hri AT HME s0 s1 hw
          go_upto_region 7 with (go_at_call 47; refine LX.out.mono ?_; rintro e w1 ⟨rfl, rfl⟩)
          refine wp_region_ext (by kernel_rfl) (by kernel_rfl) ?_
          repeat (go_big_quiet_step (first | (go_at_call 48; exact Calls.ext_of (TX.out _))))
          refine wpQuiet_nil ?_
          intro _ hw'
          obtain ⟨xq, hw''⟩ := hw'
          subst hw''
          have SP1 := Lib.hid (SP.out.below xq.h)
          have HW1 := Lib.hid (below_step HW.out xq.h)
          clear SP HW TX d3 dr LX
          generalize xq.v = wy at *
          go_wp2_with fail
          go_loopw [9, 54] (fun _ c wx => ∃ (j : Nat) (s' : Sp), j ≤ row.length ∧ c = .int .i64 j ∧ s'.ok ∧ s'.n = T.next.length ∧ nats s'.l = addRow may (metN T may k) (row.take j) ∧ SpAt wx q r s' ∧ Below w.heap.size w wx) (fun _ c _ => row.length - (intOf c).toNat)
          case atStart => exact ⟨0, s, by omega, rfl, OK.out, hn, HL.out, SP1.out, HW1.out⟩
          case round =>
            clear SP1 HW1 OK HL
            obtain ⟨j, s', hj, rfl, hok, hn', hl, hsp, hw⟩ := hrel
            have OK := Lib.hid hok
            have HL := Lib.hid hl
            have SP := Lib.hid hsp
            have HW := Lib.hid hw
            clear hok hl hsp
            by_cases hlj : j < row.length
            · have t1 : decide (j < row.length) = true := by simpa
              have HNX := Lib.hid (addRow_take (may := may) (out := metN T may k) hlj)
              obtain ⟨xb, xoff, rfl, hxb, cx⟩ := HRI.out.at_ hlj
              have cx : wr.cell? ⟨xb, xoff + j, none⟩ = some (.int .i64 row[j]) := (hw.cell (p := ⟨xb, _, none⟩) hxb).trans cx
              have hx2 := RG.out _ (List.getElem_mem hlj)
              have HL2 := Lib.hid (show ∀ l, l = addIf may (nats s'.l) row[j] → l = addRow may (metN T may k) (row.take (j + 1)) from fun l h => by rw [h, HNX.out, HL.out])
              have AM := Lib.hid (fun (h0 : 0 ≤ row[j]) (hm : may row[j] = true) => add_met (s := s') (may := may) (x := row[j]) h0 (by rw [hn']; exact hx2) hm)
              clear HNX hw
              generalize row[j] = x at *
              by_cases hx0 : 0 ≤ x
              · have t2 : decide (0 ≤ x) = true := by simpa
                have PX := Lib.hid (PR.out x hx0 hx2 wr HW.out)
                go_wp2_with fail
                refine PX.out.mono ?_; rintro e w1 ⟨rfl, k1⟩
                have SP1 := Lib.hid (SP.out.below k1)
                have HW1 := Lib.hid (below_step HW.out k1)
                clear k1 SP HW cx PX
                cases hm : may x with
                | true =>
                  have AX := Lib.hid (AC.out s' OK.out x q r w1 SP1.out)
                  have AE := Lib.hid (HL2.out _ (AM.out hx0 hm))
                  have AN := Lib.hid ((Sp.add_n s' x).trans hn')
                  have AO := Lib.hid (Sp.add_ok OK.out x)
                  go_wp2_with (go_at_call 37; refine AX.out.mono ?_; rintro e w2 ⟨rfl, h1, h2⟩; have SP2 := Lib.hid h1; have HW2 := Lib.hid (below_only HW1.out h2 (by simp; omega)); clear h1 h2)
                  go_roundw
                  case rel => exact ⟨j + 1, _, by omega, by go_num, AO.out, AN.out, AE.out, SP2.out, HW2.out⟩
                  case measure => simp [intOf]; omega
                | false =>
                  have AE := Lib.hid (HL2.out _ (addIf_out hm).symm)
                  go_wp2_with fail
                  go_roundw
                  case rel => exact ⟨j + 1, _, by omega, by go_num, OK.out, hn', AE.out, SP1.out, HW1.out⟩
                  case measure => simp [intOf]; omega
              · have t2 : decide (0 ≤ x) = false := by simpa using hx0
                have AE := Lib.hid (HL2.out _ (addIf_low hx0).symm)
                go_wp2_with fail
                go_roundw
                case rel => exact ⟨j + 1, _, by omega, by go_num, OK.out, hn', AE.out, SP.out, HW.out⟩
                case measure => simp [intOf]; omega
            · have t1 : decide (j < row.length) = false := by simpa using hlj
              have HE := Lib.hid (show nats s'.l = metN T may (k + 1) from by rw [HST.out, HL.out, List.take_of_length_le (by omega)])
              have hgr : k + 1 ≤ s'.l.length := by
                have := metN_grow hkl
                rw [← HE.out, nats_len] at this; exact this
              go_wp2_with fail
              go_roundw
              case rel => exact ⟨k + 1, s', hgr, by go_num, OK.out, hn', HE.out, SP.out, HW.out⟩
              case measure => simp [intOf]; omega
        · have t1 : decide (k < s.l.length) = false := by simpa using hlt
          have HX := Lib.hid (show nats s.l = order T may from by rw [HL.out]; exact HP.out.orderEnd (by rw [← HL.out, hnl]; omega))
          have SX := Lib.hid (SC.out s OK.out q r wr SP.out)
          clear hw
          go_wp2_with (first | (go_at_call 47; refine LX.out.mono ?_; rintro e w1 ⟨rfl, rfl⟩) | (go_at_call 49; refine SX.out.mono ?_; rintro e w2 ⟨v, rfl, h1, h2⟩; have HO := Lib.hid h1; have HW2 := Lib.hid (below_step HW.out h2); clear h1 h2))
          go_returns
          exact ⟨_, rfl, by rw [HX.out] at HO; exact own_mono HO.out (HW.out.size), HW2.out⟩
end Go.Proofs.Ytafcnehinanecaa
