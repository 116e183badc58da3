/- live.Number. -/
import Derived.Test.YtafcnehinanecaaLvTrim
import Derived.Test.YtafcnehinanecaaLvIdx
namespace Go.Proofs.Ytafcnehinanecaa
open Go.RowKit
def MayP (T : Tb) (l : List Int) : Prop := l.Nodup ∧ (∀ x ∈ l, 0 ≤ x ∧ x < T.next.length) ∧ (l = [] ∨ T.start ∈ l)
noncomputable def goodB (T : Tb) (l : List Int) : Bool := rightB T && (decide (l = []) || l.any (· == T.start))
theorem any_mem {l : List Int} {x : Int} : l.any (· == x) = true ↔ x ∈ l := by
  rw [List.any_eq_true]
  exact ⟨fun ⟨y, hy, e⟩ => by rw [← eq_of_beq e]; exact hy, fun h => ⟨x, h, by simp⟩⟩
theorem goodB_yes {T : Tb} {l : List Int} (h : goodB T l = true) : RightP T ∧ (l = [] ∨ T.start ∈ l) := by
  unfold goodB at h
  rw [Bool.and_eq_true, Bool.or_eq_true, decide_eq_true_eq, any_mem] at h
  exact ⟨(rightB_iff T).1 h.1, h.2⟩
theorem goodB_no {T : Tb} {l : List Int} (h : goodB T l = false) : ¬ (RightP T ∧ MayP T l) := by
  rintro ⟨p, _, _, hs⟩
  have : goodB T l = true := by
    unfold goodB
    rw [Bool.and_eq_true, Bool.or_eq_true, decide_eq_true_eq, any_mem]
    exact ⟨(rightB_iff T).2 p, hs⟩
  rw [this] at h; exact nomatch h
theorem nats_nodup {l : List Nat} (h : l.Nodup) : (nats l).Nodup := by
  unfold nats
  rw [List.nodup_iff_pairwise_ne, List.pairwise_map]
  exact (List.nodup_iff_pairwise_ne.1 h).imp fun h e => h (Int.ofNat.inj e)
theorem may_of_set {T : Tb} {l : List Int} {s : Sp} (hok : s.ok) (hn : s.n = T.next.length) (hl : nats s.l = l) (hs : l = [] ∨ T.start ∈ l) : MayP T l := by
  refine ⟨hl ▸ nats_nodup hok.nodup, fun x hx => ?_, hs⟩
  rw [← hl] at hx
  unfold nats at hx
  obtain ⟨y, hy, rfl⟩ := List.mem_map.1 hx
  have := hok.lt y hy
  omega
theorem add_next {l : List Int} {s : Sp} {k : Nat} (hl : nats s.l = l.take k) (hk : k < l.length) (hc : canAdd s.n s.l l[k] = true) : nats (s.add l[k]).l = l.take (k + 1) := by
  have h0 : 0 ≤ l[k] := by
    unfold canAdd at hc
    rw [Bool.and_eq_true, decide_eq_true_eq] at hc; exact hc.1
  rw [Sp.add_l]
  unfold addL
  rw [if_pos hc, List.take_succ_eq_append_getElem hk, ← hl]
  unfold nats
  rw [List.map_append]
  simp; omega
theorem add_not {T : Tb} {l : List Int} {s : Sp} {k : Nat} (hn : s.n = T.next.length) (hl : nats s.l = l.take k) (hk : k < l.length) (hc : canAdd s.n s.l l[k] = false) : ¬ MayP T l := by
  rintro ⟨hd, hi, _⟩
  obtain ⟨a, b⟩ := hi _ (List.getElem_mem hk)
  unfold canAdd at hc
  rw [decide_eq_true a, decide_eq_true (by rw [hn]; exact b), ← nats_any, hl] at hc
  have : (l.take k).any (· == l[k]) = true := by simpa using hc
  obtain ⟨j, hj, e⟩ := List.getElem_of_mem (any_mem.1 this)
  rw [List.getElem_take] at e
  rw [List.length_take] at hj
  have := (List.getElem_inj (h₀ := by omega) (h₁ := hk) hd).1 e
  omega
attribute [irreducible] goodB
attribute [local irreducible] Calls
set_option maxHeartbeats 8000000 in
set_option maxRecDepth 100000 in
theorem lnumb_c (tv : Array Value) (T : Tb) (l : List Int) (hl : l.length ≤ 1000) (h3 : T.next.length ≤ 65536) (v : Value) (w : World) (h : TbR w tv T) (hv : IntsAt w 0 v l) : Calls Try.prog 21 #[.agg tv, v] w fun e w' => ∃ tu c, e = .returned (.tuple #[.agg tu, .int .i64 c]) ∧
    ((RightP T ∧ MayP T l ∧ c = 0 ∧ TbR w' tu (numberT T l) ∧ Fresh (w.heap.size + 2) w' tu (numberT T l)) ∨ (¬ (RightP T ∧ MayP T l) ∧ c = 1 ∧ tu = Z0v)) ∧ Below w.heap.size w w' := by
  have Z := (zero_of_info z0_info).1
  have ZB := z0_build
  have K0 := below_alloc (below_alloc (Below.refl w.heap.size w) (.cells tv 26)) (.cells Z0v 26)
  have W0 := Lib.hid K0
  have HT := Lib.hid (h.boxed.below (below_alloc (Below.refl _ _) (.cells Z0v 26)))
  have HR := Lib.hid (h.below K0)
  have HV := Lib.hid (hv.below K0)
  have R0 := Lib.hid (show Blk ((w.alloc (.cells tv 26)).alloc (.cells Z0v 26)) (w.heap.size + 1) 26 Z0v from by
    have := Blk.made (w.alloc (.cells tv 26)) 26 Z0v
    rwa [World.size_alloc] at this)
  have RG := Lib.hid (Blk.range ((Blk.made w 26 tv).alloc (.cells Z0v 26)))
  have SL := Lib.hid (show (Try.prog.info? 26).map (·.size) = some tv.toList.length from by rw [Array.length_toList, h.size]; exact info_tab)
  have RC := Lib.hid (fun w h => right_c tv T w h)
  have CC := Lib.hid (fun v w h => contains_c l T.start (by omega) v w h)
  have NWC := Lib.hid (snew_c T.next.length h3)
  have AC := Lib.hid (fun s h x g r w hs => sadd_c s h x g r w hs)
  have NC := Lib.hid (fun (p : RightP T) (m : MayP T l) v w4 (h4 : TbAt w4 w.heap.size T) (hv : IntsAt w4 0 v l) => lnumber_c T p l m.1 m.2.1 v w.heap.size w4 h4 hv)
  have hsz : w.heap.size + 1 < ((w.alloc (.cells tv 26)).alloc (.cells Z0v 26)).heap.size := by rw [World.size_alloc, World.size_alloc]; omega
  have hzz := z0_size
  obtain ⟨ao, cap, rfl, _⟩ := id hv
  clear h hv K0
  go_enter Try.func21, Try.ntmps21
  go_upto_region 1 with fail
  generalize (w.alloc (.cells tv 26)).alloc (.cells Z0v 26) = wb at *
  go_cut [24] from 10 to 24 (fun u wx => u = .bool (!goodB T l) ∧ Below wb.heap.size wb wx)
  case first =>
    have hud : undef = Value.tuple #[] := rfl
    cases hr : rightB T with
    | false =>
      have HX := Lib.hid (show (!goodB T l) = true from by unfold goodB; rw [hr]; rfl)
      rw [hr] at RC
      clear hr
      go_wp2_with (refine wpList_load_mid rfl 26 _ rfl w.heap.size 0 rfl tv.toList _ RG.out Try.underlying26 rfl SL.out ?_; rw [Array.toArray_toList])
      go_wp2_with (go_at_call 25; refine (RC.out _ HR.out).mono ?_; rintro e w1 ⟨rfl, k1⟩; have W1 := Lib.hid k1; clear k1)
      go_meet
      exact ⟨by rw [HX.out], W1.out⟩
    | true =>
      have HG := Lib.hid (show goodB T l = (decide (l = []) || l.any (· == T.start)) from by unfold goodB; rw [hr]; rfl)
      rw [hr] at RC
      clear hr
      by_cases h0 : l.length = 0
      · have t1 : decide (0 < l.length) = false := decide_eq_false (by omega)
        have HX := Lib.hid (show (!goodB T l) = false from by rw [HG.out, decide_eq_true (List.eq_nil_of_length_eq_zero h0)]; rfl)
        clear h0
        go_wp2_with (refine wpList_load_mid rfl 26 _ rfl w.heap.size 0 rfl tv.toList _ RG.out Try.underlying26 rfl SL.out ?_; rw [Array.toArray_toList])
        go_wp2_with (go_at_call 25; refine (RC.out _ HR.out).mono ?_; rintro e w1 ⟨rfl, k1⟩; have W1 := Lib.hid k1; clear k1)
        go_meet
        exact ⟨by rw [HX.out], W1.out⟩
      · have t1 : decide (0 < l.length) = true := decide_eq_true (by omega)
        have HX := Lib.hid (show (!goodB T l) = !l.any (· == T.start) from by rw [HG.out, decide_eq_false (fun e => h0 (by rw [e]; rfl))]; rfl)
        generalize l.any (· == T.start) = b at *
        go_wp2_with (refine wpList_load_mid rfl 26 _ rfl w.heap.size 0 rfl tv.toList _ RG.out Try.underlying26 rfl SL.out ?_; rw [Array.toArray_toList])
        go_wp2_with (first
          | (go_at_call 25; refine (RC.out _ HR.out).mono ?_; rintro e w1 ⟨rfl, k1⟩; have W1 := Lib.hid k1; have d1 := (HT.out.below k1).cells.2.1; have HV1 := Lib.hid (HV.out.below k1); clear k1)
          | (go_at_call 35; refine (CC.out _ _ HV1.out).mono ?_; rintro e w2 ⟨rfl, rfl⟩))
        go_meet
        exact ⟨by rw [HX.out], W1.out⟩
  case rest =>
    obtain ⟨rfl, hw⟩ := hcut
    rename World => wc
    have HW := Lib.hid hw
    have HTC := Lib.hid (HT.out.below hw)
    have R5 := R0.out.below hw
    clear hw
    cases hg : goodB T l with
    | false =>
      have NO := Lib.hid (goodB_no hg)
      have ST := store_tab R5 z0_size z0_size z0_one
      have HR2 := Lib.hid (Blk.row R5 Z0v)
      have LD := load_tab HR2.out z0_size
      clear hg R5
      go_wp2_with fail
      exact bodyPost_ret (v := .tuple #[.agg Z0v, .int .i64 1]) (by simp [results, Try.results21, asAddr, LD]) rfl ⟨Z0v, 1, rfl, .inr ⟨NO.out, rfl, rfl⟩, below_row (W0.out.trans (HW.out.mono (by omega))) (by omega) Z0v⟩
    | true =>
      obtain ⟨p, hs⟩ := goodB_yes hg
      have HP := Lib.hid p
      have HS := Lib.hid hs
      have c3 := HTC.out.cells.2.2.2
      obtain ⟨an, cn, _, _, c3, _, _, _⟩ := c3
      clear hg p hs R5
      go_wp2_with (go_at_call 36; refine (NWC.out _).mono ?_; rintro e w2 ⟨q, rfl, hsp, hq, hq2, k0⟩; have SP0 := Lib.hid hsp; have HW2 := Lib.hid (below_step HW.out k0); clear hsp k0)
      generalize hr : wc.heap.size = r at SP0 hq
      have hrb : wb.heap.size ≤ r := by rw [← hr]; exact HW.out.size
      clear hr c3
      go_loopw [9, 35] (fun _ i wx => ∃ (k : Nat) (s : Sp), k ≤ l.length ∧ i = .int .i64 k ∧ s.ok ∧ s.n = T.next.length ∧ nats s.l = l.take k ∧ SpAt wx q r s ∧ Below wb.heap.size wb wx) (fun _ i _ => l.length - (intOf i).toNat)
      case atStart => exact ⟨0, _, by omega, rfl, Sp.new_ok h3, rfl, rfl, SP0.out, HW2.out⟩
      case round =>
        clear SP0 HW2 HW HTC
        obtain ⟨k, s, hk, rfl, hok, hn, hl2, hsp, hw⟩ := hrel
        have OK := Lib.hid hok
        have HL := Lib.hid hl2
        have SP := Lib.hid hsp
        have HW := Lib.hid hw
        clear hok hl2 hsp
        by_cases hlt : k < l.length
        · have t1 : decide (k < l.length) = true := by simpa
          obtain ⟨ob, oo, rfl, hob, ock⟩ := HV.out.at_ hlt
          have ock : wr.cell? ⟨ob, oo + k, none⟩ = some (.int .i64 l[k]) := (hw.cell (p := ⟨ob, _, none⟩) hob).trans ock
          have AN := Lib.hid (fun h => add_next (s := s) HL.out hlt h)
          have AX := Lib.hid (fun h => add_not (T := T) (s := s) hn HL.out hlt h)
          have AD := Lib.hid (AC.out s OK.out l[k] q r wr SP.out)
          have A1 := Lib.hid (show (s.add l[k]).ok from Sp.add_ok OK.out _)
          have A2 := Lib.hid (show (s.add l[k]).n = T.next.length from (Sp.add_n _ _).trans hn)
          clear hw
          generalize l[k] = x at *
          cases hc : canAdd s.n s.l x with
          | true =>
            have HN := Lib.hid (AN.out hc)
            rw [hc] at AD
            clear hc AN AX
            go_wp2_with (go_at_call 37; refine AD.out.mono ?_; rintro e w3 ⟨rfl, h1, h2⟩; have SP2 := Lib.hid h1; have HW3 := Lib.hid (below_only HW.out h2 (by simp; omega)); clear h1 h2)
            go_roundw
            case rel => exact ⟨k + 1, _, by omega, by go_num, A1.out, A2.out, HN.out, SP2.out, HW3.out⟩
            case measure => simp [intOf]; omega
          | false =>
            have NO := Lib.hid (AX.out hc)
            rw [hc] at AD
            clear hc AN AX
            go_wp2_with (go_at_call 37; refine AD.out.mono ?_; rintro e w3 ⟨rfl, h1, h2⟩; have HW3 := Lib.hid (below_only HW.out h2 (by simp; omega)); have R6 := R0.out.below HW3.out; have ST := store_tab R6 z0_size z0_size z0_one; have HR2 := Lib.hid (Blk.row R6 Z0v); have LD := load_tab HR2.out z0_size; clear h1 h2 R6)
            exact bodyPost_ret (v := .tuple #[.agg Z0v, .int .i64 1]) (by simp [results, Try.results21, asAddr, LD]) rfl ⟨Z0v, 1, rfl, .inr ⟨fun h => NO.out h.2, rfl, rfl⟩, below_row (W0.out.trans (HW3.out.mono (by omega))) (by omega) Z0v⟩
        · have t1 : decide (k < l.length) = false := by simpa using hlt
          have MP := Lib.hid (may_of_set (T := T) OK.out hn (show nats s.l = l from by rw [HL.out, List.take_of_length_le (by omega)]) HS.out)
          have NX := Lib.hid (NC.out HP.out MP.out (.slice ao l.length cap) wr (HT.out.below hw) (HV.out.below hw))
          clear hw
          go_wp2_with (go_at_call 27; refine NX.out.mono ?_; rintro e w5 ⟨⟨tu, rfl, h1, h2, h4⟩, h3⟩; have FAR := Lib.hid h2; have FRE := Lib.hid h4; have W5 := Lib.hid (below_step HW.out h3); have hw4 := HW.out.size; have R6 := R0.out.below W5.out; have hts := h1.size; have ST := store_tab R6 z0_size hts h1.one; have HR2 := Lib.hid (Blk.row R6 tu); have LD := load_tab HR2.out hts; clear h1 h2 h3 h4 R6)
          exact bodyPost_ret (v := .tuple #[.agg tu, .int .i64 0]) (by simp [results, Try.results21, asAddr, LD]) rfl ⟨tu, 0, rfl, .inl ⟨HP.out, MP.out, rfl, FAR.out _ _ (by omega), (FRE.out.mono (by omega)).keep (keep_old (Keep.refl _ _) (by omega) tu)⟩, below_row (W0.out.trans (W5.out.mono (by omega))) (by omega) tu⟩
end Go.Proofs.Ytafcnehinanecaa
