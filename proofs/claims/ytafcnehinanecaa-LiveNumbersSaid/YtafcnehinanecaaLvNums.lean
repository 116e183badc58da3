/- The walk of LiveNumbers. -/
import Derived.Test.YtafcnehinanecaaLvAwake
import Derived.Test.YtafcnehinanecaaLvCopy
namespace Go.Proofs.Ytafcnehinanecaa
open Go.RowKit
theorem bytes_of (s : ByteArray) : ∃ l : List UInt8, s = ⟨l.toArray⟩ := ⟨s.data.toList, by simp⟩
/-- What Number answers, and that nothing of it lies ahead of a block. -/
def NumD (T : Tb) (l : List Int) (w : World) (B : Nat) (tu : Array Value) (c : Int) : Prop := (RightP T ∧ MayP T l ∧ c = 0 ∧ Fresh B w tu (numberT T l)) ∨ (¬ (RightP T ∧ MayP T l) ∧ c = 1 ∧ tu = Z0v)
def NumT (T : Tb) (l : List Int) (w : World) (tu : Array Value) (c : Int) : Prop := (RightP T ∧ MayP T l ∧ c = 0 ∧ TbR w tu (numberT T l)) ∨ (¬ (RightP T ∧ MayP T l) ∧ c = 1 ∧ tu = Z0v)
theorem NumD.tab {T : Tb} {l : List Int} {w : World} {B : Nat} {tu : Array Value} {c : Int} (h : NumD T l w B tu c) : NumT T l w tu c := by
  rcases h with ⟨a, b, d, e⟩ | h
  · exact .inl ⟨a, b, d, e.tab⟩
  · exact .inr h
theorem NumD.of {T : Tb} {l : List Int} {w : World} {B : Nat} {tu : Array Value} {c : Int} (h : (RightP T ∧ MayP T l ∧ c = 0 ∧ TbR w tu (numberT T l) ∧ Fresh B w tu (numberT T l)) ∨ (¬ (RightP T ∧ MayP T l) ∧ c = 1 ∧ tu = Z0v)) : NumD T l w B tu c := by
  rcases h with ⟨a, b, d, _, f⟩ | h
  · exact .inl ⟨a, b, d, f⟩
  · exact .inr h
theorem NumT.is {T : Tb} {l : List Int} {w : World} {tu : Array Value} {c : Int} (h : NumT T l w tu c) : ∃ T', TbR w tu T' := by
  rcases h with ⟨_, _, _, e⟩ | ⟨_, _, rfl⟩
  · exact ⟨_, e⟩
  · exact ⟨_, z0_tab w⟩
theorem NumT.below {T : Tb} {l : List Int} {w w' : World} {tu : Array Value} {c : Int} (h : NumT T l w tu c) (k : Below w.heap.size w w') : NumT T l w' tu c := by
  rcases h with ⟨a, b, d, e⟩ | h
  · exact .inl ⟨a, b, d, e.below k⟩
  · exact .inr h
theorem NumD.row {T : Tb} {l : List Int} {w : World} {B : Nat} {tu : Array Value} {c : Int} (h : NumD T l w B tu c) {g : Nat} (hg : g < B) (cs : Array Value) : NumT T l (w.setRow g cs) tu c := by
  rcases h with ⟨a, b, d, e⟩ | h
  · exact .inl ⟨a, b, d, (e.keep (keep_old (Keep.refl _ w) hg cs)).tab⟩
  · exact .inr h
def NumOut (T : Tb) (l : List Int) (w : World) (v7 v8 : Value) (wx : World) : Prop := ∃ bu tu c, v7 = .pointer (some ⟨bu, 0, none⟩) ∧ v8 = .int .i64 c ∧ Blk wx bu 26 tu ∧ NumT T l wx tu c ∧ Below w.heap.size w wx
attribute [local irreducible] Calls
attribute [local irreducible] NumT NumD
set_option maxHeartbeats 16000000 in
set_option maxRecDepth 100000 in
theorem liveNumbers_c (tv : Array Value) (T : Tb) (hbig : T.next.length ≤ 9223372036854775807) (l : List Int) (A : Option Addr) (cap : Nat) (hcap : l.length ≤ cap) (s : List UInt8) (hs : s.length ≤ 9223372036854775807) (w : World) (h : TbR w tv T) (hv : IntsAt w 0 (.slice A l.length cap) l) : Calls Try.prog 5 #[.agg tv, .slice A l.length cap, strT s] w fun e w' => e = .returned (.bool true) ∧ Below w.heap.size w w' := by
  have Z := (zero_of_info z0_info).1
  have ZB := z0_build
  have hzz := z0_size
  have hne : ¬ Z0v = #[] := fun e => by have := z0_size; rw [e] at this; exact nomatch this
  have hud : undef = Value.tuple #[] := rfl
  have K0 := below_alloc (Below.refl w.heap.size w) (.cells tv 26)
  have W0 := Lib.hid K0
  have HT := Lib.hid h.boxed
  have HR := Lib.hid (h.below K0)
  have HV := Lib.hid (hv.below K0)
  have B1 := Lib.hid (Blk.made w 26 tv)
  have SL := Lib.hid (tab_len tv h.size)
  have AWC := Lib.hid awake_c
  have FC := Lib.hid (fun w1 (h1 : TbR w1 tv T) => few_c tv T hbig w1 h1)
  have RC := Lib.hid (fun w1 (h1 : TbR w1 tv T) => rright_c tv T w1 h1)
  have LC := Lib.hid (fun (p : RightP T) (hl : s.length ≤ 1000000) f (hf : f ≤ s.length) w1 (h1 : TbR w1 tv T) => longest_c tv T p s hl f hf w1 h1)
  have LD := Lib.hid (fun uv (p : RightP (numberT T l)) (hl : s.length ≤ 1000000) f (hf : f ≤ s.length) w1 (h1 : TbR w1 uv (numberT T l)) => longest_c uv (numberT T l) p s hl f hf w1 h1)
  have LE := Lib.hid (fun (p : RightP T) (m : MayP T l) (hf : T.next.length ≤ l.length) => full_longest p h.len m.1 m.2.1 hf s 0)
  have NC := Lib.hid (fun (hl : l.length ≤ 1000) (h3 : T.next.length ≤ 65536) v w1 (h1 : TbR w1 tv T) (h2 : IntsAt w1 0 v l) => lnumb_c tv T l hl h3 v w1 h1 h2)
  have MC := Lib.hid (fun (hl : l.length ≤ 1000) w1 (h1 : TbR w1 tv T) (h2 : IntsAt w1 0 (.slice A l.length cap) l) => rmay_c tv T l hl A cap hcap w1 h1 h2)
  have sl : (ByteArray.mk s.toArray).size = s.length := str_size s
  unfold strT at *
  generalize ByteArray.mk s.toArray = sb at *
  generalize hln : s.length = ln at *
  clear h K0 hv
  go_enter Try.func5, Try.ntmps5
  go_upto_region 1 with fail
  generalize w.alloc (.cells tv 26) = wa at *
  generalize hg : w.heap.size = b1 at *
  generalize hll : l.length = ll at *
  go_cut [35] from 13 to 35 (fun v wx => v = .bool (!fewB T || (decide (60 < T.next.length) || (decide (100 < ll) || decide (30 < ln)))) ∧ Below wa.heap.size wa wx)
  case first =>
    go_wp2_with fail
    refine (AWC.out _).mono ?_
    rintro e w1 ⟨rfl, k1⟩
    have K1 := Lib.hid k1
    have RG := Lib.hid (Blk.range (B1.out.below k1))
    clear k1
    go_wp2_with (refine wpL_tabW (by rfl) b1 rfl tv RG.out SL.out ?_)
    refine (FC.out _ (HR.out.below K1.out)).mono ?_
    rintro e w2 ⟨rfl, k2⟩
    have K2 := Lib.hid (below_step K1.out k2)
    obtain ⟨c0, c1, cr, an, cn, at_, ct, c3, c4, hra, hta⟩ := (HT.out.below K2.out).cells
    clear k2 c0 c1 cr c4 hra hta
    cases hf : fewB T with
    | false =>
      go_wp2_with fail
      go_meet
      exact ⟨by rw [hf]; rfl, K2.out⟩
    | true =>
      by_cases h60 : 60 < T.next.length
      · have t1 : decide (60 < T.next.length) = true := by simpa
        have t2 : decide ((60 : Int) < (T.next.length : Int)) = true := by simp; omega
        go_wp2_with fail
        go_meet
        exact ⟨by rw [hf, t1]; rfl, K2.out⟩
      · have t1 : decide (60 < T.next.length) = false := by simpa using h60
        have t2 : decide ((60 : Int) < (T.next.length : Int)) = false := by simp; omega
        by_cases h100 : 100 < ll
        · have t3 : decide (100 < ll) = true := by simpa
          have t4 : decide ((100 : Int) < (ll : Int)) = true := by simp; omega
          go_wp2_with fail
          go_meet
          exact ⟨by rw [hf, t1, t3]; rfl, K2.out⟩
        · have t3 : decide (100 < ll) = false := by simpa using h100
          have t4 : decide ((100 : Int) < (ll : Int)) = false := by simp; omega
          have t5 : decide ((30 : Int) < (ln : Int)) = decide (30 < ln) := by rw [Bool.eq_iff_iff]; simp; omega
          generalize hb : decide (30 < ln) = bl at *
          go_wp2_with fail
          go_meet
          exact ⟨by rw [hf, t1, t3]; rfl, K2.out⟩
  case rest =>
    obtain ⟨rfl, hw⟩ := hcut
    rename World => wb
    have KB := Lib.hid hw
    clear hw FC
    cases hc : (!fewB T || (decide (60 < T.next.length) || (decide (100 < ll) || decide (30 < ln)))) with
    | true =>
      go_wp2_with fail
      refine (AWC.out _).mono ?_
      rintro e w1 ⟨rfl, k1⟩
      have K1 := Lib.hid (below_step KB.out k1)
      clear k1
      go_wp2_with fail
      go_returns
      exact ⟨rfl, by rw [hg]; exact W0.out.trans (K1.out.mono (by rw [← hg]; exact W0.out.size))⟩
    | false =>
      obtain ⟨h60, h100, h30⟩ : T.next.length ≤ 60 ∧ ll ≤ 100 ∧ ln ≤ 30 := by simp at hc; omega
      clear hc AWC
      have RG := Lib.hid (Blk.range (B1.out.below KB.out))
      have NC1 := Lib.hid (fun v w1 (h1 : TbR w1 tv T) (h2 : IntsAt w1 0 v l) => NC.out (by omega) (by omega) v w1 h1 h2)
      have MC1 := Lib.hid (fun w1 (h1 : TbR w1 tv T) (h2 : IntsAt w1 0 (.slice A ll cap) l) => MC.out (by omega) w1 h1 h2)
      clear NC MC
      go_upto_region 3 with fail
      go_cut [7, 8] from 37 to 44 (fun v7 v8 wx => NumOut T l wb v7 v8 wx)
      case first =>
        have HRB := Lib.hid (HR.out.below KB.out)
        have HVB := Lib.hid (HV.out.below KB.out)
        have HS := Lib.hid (show ∀ w', Below wb.heap.size wb w' → w'.rangeAt b1 0 tv.toList ∧ Below wb.heap.size wb w' from fun w' k => ⟨Blk.range ((B1.out.below KB.out).below k), k⟩)
        have DW := Lib.hid (show Below wb.heap.size wb wb.drew from below_dr (Below.refl _ _))
        refine wp_region_held_drew (S := fun w' => w'.rangeAt b1 0 tv.toList ∧ Below wb.heap.size wb w') (by kernel_rfl) (HS.out _ DW.out) (fun hHeld => ?_)
        generalize wb.drew = x0 at *
        clear RG
        refine' wpAnyH_take (i := 0) (v := _) rfl (by kernel_rfl) (by kernel_rfl) (by kernel_rfl) (fun _ _ _ h => h) (yields_tab (by kernel_rfl) _ rfl b1 ?hx0 tv (fun _ h1 => h1.1) SL.out) (by assumption) ?r0
        case hx0 => (go_simp; try with_reducible rfl)
        try simp only [Act.put]
        refine' wpAnyH_take (i := 2) (v := _) rfl (by kernel_rfl) (by kernel_rfl) (by kernel_rfl) (fun _ _ _ h => h) (Or.inl ⟨by kernel_rfl, ?hy2⟩) (by assumption) ?r2
        case hy2 => (intro w hSw; (try dsimp only at hSw); go_simp; with_reducible rfl)
        try simp only [Act.put]
        refine wpAnyH_ready (rs := [1, 8]) (by kernel_rfl) (by simp) (AllReadyH.cons rfl (fun K' hK => ?_) (AllReadyH.cons rfl (fun K' hK => ?_) AllReadyH.nil))
        · go_simp
          have Wx1 := Lib.hid (show Below wb.heap.size wb (x0.alloc (.cells #[] 3)) from DW.out.trans ((below_alloc (Below.refl _ _) _).mono DW.out.size))
          have OW := Lib.hid (own_built x0)
          have hsa : x0.heap.size < (x0.alloc (.cells #[] 3)).heap.size := by rw [World.size_alloc]; omega
          have hsb : wb.heap.size ≤ x0.heap.size := DW.out.size
          refine hK.out _ _ (HS.out _ Wx1.out) (fun hHeld => ?_)
          clear hK K'
          generalize x0.alloc (.cells #[] 3) = x1 at *
          generalize x0.heap.size = ba at *
          refine wpAnyH_ready (rs := [3, 8]) (by kernel_rfl) (by simp) (AllReadyH.cons rfl (fun K' hK => ?_) (AllReadyH.cons rfl (fun K' hK => ?_) AllReadyH.nil))
          · rw [if_pos (by rfl)]
            refine wp_copy (w := x1) (.tmp 39) (.tmp 40) rfl ba l (.slice (some ⟨ba, 0, none⟩) 0 0) (.slice A ll cap) rfl OW.out rfl (HVB.out.below Wx1.out) (by omega) (Nat.le_of_lt hsa) ?_
            intro v' x2 ho kb hgr
            have Wx2 := Lib.hid (Wx1.out.trans (kb.mono hsb))
            rw [hll] at ho
            obtain ⟨ao, co, rfl, _⟩ := own_form ho
            have OI := Lib.hid ((IntsAt.own (l := l) (by rw [hll]; exact ho)).mono (Nat.zero_le _))
            clear ho kb hgr OW
            refine hK.out _ _ (HS.out _ Wx2.out) (fun hHeld => ?_)
            clear hK K'
            refine wpAnyH_ready (rs := [4, 8]) (by kernel_rfl) (by simp) (AllReadyH.cons rfl (fun K' hK => ?_) (AllReadyH.cons rfl (fun K' hK => ?_) AllReadyH.nil))
            · go_simp
              go_wp2_with fail
              refine (NC1.out _ _ (HRB.out.below Wx2.out) OI.out).mono ?_
              rintro e x3 ⟨tu, c, rfl, hd, kk⟩
              have ND := Lib.hid (show NumD T l x3 (x2.heap.size + 2) tu c from NumD.of hd)
              have Wx3 := Lib.hid (Wx2.out.trans (kk.mono Wx2.out.size))
              clear hd kk OI
              refine hK.out _ _ (HS.out _ Wx3.out) (fun hHeld => ?_)
              clear hK K'
              refine' wpAnyH_take (i := 5) (v := _) rfl (by kernel_rfl) (by kernel_rfl) (by kernel_rfl) (fun _ _ _ h => h) (Or.inl ⟨by kernel_rfl, ?hy5aaa⟩) (by assumption) ?r5aaa
              case hy5aaa => (intro w hSw; (try dsimp only at hSw); go_simp; with_reducible rfl)
              try simp only [Act.put]
              refine' wpAnyH_take (i := 6) (v := _) rfl (by kernel_rfl) (by kernel_rfl) (by kernel_rfl) (fun _ _ _ h => h) (Or.inl ⟨by kernel_rfl, ?hy6aaa⟩) (by assumption) ?r6aaa
              case hy6aaa => (intro w hSw; (try dsimp only at hSw); go_simp; with_reducible rfl)
              try simp only [Act.put]
              refine' wpAnyH_take (i := 7) (v := _) rfl (by kernel_rfl) (by kernel_rfl) (by kernel_rfl) (fun _ _ _ h => h) (Or.inl ⟨by kernel_rfl, ?hy7aaa⟩) (by assumption) ?r7aaa
              case hy7aaa => (intro w hSw; (try dsimp only at hSw); go_simp; with_reducible rfl)
              try simp only [Act.put]
              refine wpAnyH_ready (rs := [8]) (by kernel_rfl) (by simp) (AllReadyH.cons rfl (fun K' hK => ?_) AllReadyH.nil)
              go_simp
              obtain ⟨T', ht'⟩ := ND.out.tab.is
              have hz2 := ht'.size
              obtain ⟨ST, hblk, k5⟩ := box_store ht'
              have KN := Lib.hid (Wx3.out.trans (k5.mono Wx3.out.size))
              have BN := Lib.hid hblk
              have NN := Lib.hid (ND.out.tab.below k5)
              refine hK.out _ _ (HS.out _ (Wx3.out.trans ((below_alloc (Below.refl _ _) _).mono Wx3.out.size))) (fun hHeld => ?_)
              clear hK K' k5 hblk ht' ND
              refine wpAnyH_ready (rs := [9]) (by kernel_rfl) (by simp) (AllReadyH.cons rfl (fun K' hK => ?_) AllReadyH.nil)
              go_simp
              refine hK.out _ _ (HS.out _ KN.out) (fun hHeld => ?_)
              clear hK K' ST hz2
              refine wpAnyH_ready (rs := [10]) (by kernel_rfl) (by simp) (AllReadyH.cons rfl (fun K' hK => ?_) AllReadyH.nil)
              go_simp
              refine hK.out _ _ (HS.out _ KN.out) (fun hHeld => ?_)
              clear hK K' hHeld
              refine wpAnyH_done (by kernel_rfl) ?_ _
              go_wp2_with fail
              go_meet
              exact ⟨_, _, _, rfl, rfl, BN.out, NN.out, KN.out⟩
            · go_simp
              have Wx4 := Lib.hid (show Below wb.heap.size wb (x2.alloc (.cells Z0v 26)) from Wx2.out.trans ((below_alloc (Below.refl _ _) _).mono Wx2.out.size))
              have BU := Lib.hid (Blk.made x2 26 Z0v)
              have hbz : x2.heap.size < (x2.alloc (.cells Z0v 26)).heap.size := by rw [World.size_alloc]; omega
              refine hK.out _ _ (HS.out _ Wx4.out) (fun hHeld => ?_)
              clear hK K'
              have hbw : wb.heap.size ≤ x2.heap.size := Wx2.out.size
              have OI := Lib.hid (OI.out.below (below_alloc (Below.refl _ _) (.cells Z0v 26)))
              generalize x2.alloc (.cells Z0v 26) = x4 at *
              generalize x2.heap.size = bu at *
              have hbu : bu < x4.heap.size := hbz
              refine wpAnyH_ready (rs := [4]) (by kernel_rfl) (by simp) (AllReadyH.cons rfl (fun K' hK => ?_) AllReadyH.nil)
              go_simp
              go_wp2_with fail
              refine (NC1.out _ _ (HRB.out.below Wx4.out) OI.out).mono ?_
              rintro e x5 ⟨tu, c, rfl, hd, kk⟩
              have ND := Lib.hid (show NumD T l x5 (x4.heap.size + 2) tu c from NumD.of hd)
              have Wx5 := Lib.hid (Wx4.out.trans (kk.mono Wx4.out.size))
              have BU := Lib.hid (BU.out.below kk)
              replace hbu : bu < x4.heap.size + 2 := by omega
              clear hd kk OI
              refine hK.out _ _ (HS.out _ Wx5.out) (fun hHeld => ?_)
              clear hK K'
              refine' wpAnyH_take (i := 5) (v := _) rfl (by kernel_rfl) (by kernel_rfl) (by kernel_rfl) (fun _ _ _ h => h) (Or.inl ⟨by kernel_rfl, ?hy5aab⟩) (by assumption) ?r5aab
              case hy5aab => (intro w hSw; (try dsimp only at hSw); go_simp; with_reducible rfl)
              try simp only [Act.put]
              refine' wpAnyH_take (i := 6) (v := _) rfl (by kernel_rfl) (by kernel_rfl) (by kernel_rfl) (fun _ _ _ h => h) (Or.inl ⟨by kernel_rfl, ?hy6aab⟩) (by assumption) ?r6aab
              case hy6aab => (intro w hSw; (try dsimp only at hSw); go_simp; with_reducible rfl)
              try simp only [Act.put]
              refine' wpAnyH_take (i := 7) (v := _) rfl (by kernel_rfl) (by kernel_rfl) (by kernel_rfl) (fun _ _ _ h => h) (Or.inl ⟨by kernel_rfl, ?hy7aab⟩) (by assumption) ?r7aab
              case hy7aab => (intro w hSw; (try dsimp only at hSw); go_simp; with_reducible rfl)
              try simp only [Act.put]
              obtain ⟨T', ht'⟩ := ND.out.tab.is
              have hz2 := ht'.size
              have ST := store_tab BU.out z0_size ht'.size ht'.one
              have BN := Lib.hid (Blk.row BU.out tu)
              have NN := Lib.hid (ND.out.row hbu tu)
              have KN := Lib.hid (below_row Wx5.out hbw tu)
              clear ht' ND
              refine wpAnyH_ready (rs := [9]) (by kernel_rfl) (by simp) (AllReadyH.cons rfl (fun K' hK => ?_) AllReadyH.nil)
              go_simp
              refine hK.out _ _ (HS.out _ KN.out) (fun hHeld => ?_)
              clear hK K' ST hz2
              refine wpAnyH_ready (rs := [10]) (by kernel_rfl) (by simp) (AllReadyH.cons rfl (fun K' hK => ?_) AllReadyH.nil)
              go_simp
              refine hK.out _ _ (HS.out _ KN.out) (fun hHeld => ?_)
              clear hK K' hHeld
              refine wpAnyH_done (by kernel_rfl) ?_ _
              go_wp2_with fail
              go_meet
              exact ⟨_, _, _, rfl, rfl, BN.out, NN.out, KN.out⟩
          · go_simp
            have Wx6 := Lib.hid (show Below wb.heap.size wb (x1.alloc (.cells Z0v 26)) from Wx1.out.trans ((below_alloc (Below.refl _ _) _).mono Wx1.out.size))
            have BU := Lib.hid (Blk.made x1 26 Z0v)
            have hbz : x1.heap.size < (x1.alloc (.cells Z0v 26)).heap.size := by rw [World.size_alloc]; omega
            refine hK.out _ _ (HS.out _ Wx6.out) (fun hHeld => ?_)
            clear hK K'
            have hbw : wb.heap.size ≤ x1.heap.size := Wx1.out.size
            have OW := Lib.hid (OW.out.alloc (.cells Z0v 26))
            have hba : x1.heap.size ≠ ba := by omega
            replace hsa : ba < (x1.alloc (.cells Z0v 26)).heap.size := by rw [World.size_alloc]; omega
            generalize x1.alloc (.cells Z0v 26) = x6 at *
            generalize x1.heap.size = bu at *
            have hbu : bu < x6.heap.size := hbz
            refine wpAnyH_ready (rs := [3]) (by kernel_rfl) (by simp) (AllReadyH.cons rfl (fun K' hK => ?_) AllReadyH.nil)
            rw [if_pos (by rfl)]
            refine wp_copy (w := x6) (.tmp 39) (.tmp 40) rfl ba l (.slice (some ⟨ba, 0, none⟩) 0 0) (.slice A ll cap) rfl OW.out rfl (HVB.out.below Wx6.out) (by omega) (Nat.le_of_lt hsa) ?_
            intro v' x7 ho kb hgr
            have Wx7 := Lib.hid (Wx6.out.trans (kb.mono hsb))
            have BU := Lib.hid (BU.out.grown hgr (fun e => hba (by injection e)))
            have hbu : bu < x7.heap.size := BU.out.lt
            rw [hll] at ho
            obtain ⟨ao, co, rfl, _⟩ := own_form ho
            have OI := Lib.hid ((IntsAt.own (l := l) (by rw [hll]; exact ho)).mono (Nat.zero_le _))
            clear ho kb hgr OW
            refine hK.out _ _ (HS.out _ Wx7.out) (fun hHeld => ?_)
            clear hK K'
            refine wpAnyH_ready (rs := [4]) (by kernel_rfl) (by simp) (AllReadyH.cons rfl (fun K' hK => ?_) AllReadyH.nil)
            go_simp
            go_wp2_with fail
            refine (NC1.out _ _ (HRB.out.below Wx7.out) OI.out).mono ?_
            rintro e x8 ⟨tu, c, rfl, hd, kk⟩
            have ND := Lib.hid (show NumD T l x8 (x7.heap.size + 2) tu c from NumD.of hd)
            have Wx8 := Lib.hid (Wx7.out.trans (kk.mono Wx7.out.size))
            have BU := Lib.hid (BU.out.below kk)
            replace hbu : bu < x7.heap.size + 2 := by omega
            clear hd kk OI
            refine hK.out _ _ (HS.out _ Wx8.out) (fun hHeld => ?_)
            clear hK K'
            refine' wpAnyH_take (i := 5) (v := _) rfl (by kernel_rfl) (by kernel_rfl) (by kernel_rfl) (fun _ _ _ h => h) (Or.inl ⟨by kernel_rfl, ?hy5ab⟩) (by assumption) ?r5ab
            case hy5ab => (intro w hSw; (try dsimp only at hSw); go_simp; with_reducible rfl)
            try simp only [Act.put]
            refine' wpAnyH_take (i := 6) (v := _) rfl (by kernel_rfl) (by kernel_rfl) (by kernel_rfl) (fun _ _ _ h => h) (Or.inl ⟨by kernel_rfl, ?hy6ab⟩) (by assumption) ?r6ab
            case hy6ab => (intro w hSw; (try dsimp only at hSw); go_simp; with_reducible rfl)
            try simp only [Act.put]
            refine' wpAnyH_take (i := 7) (v := _) rfl (by kernel_rfl) (by kernel_rfl) (by kernel_rfl) (fun _ _ _ h => h) (Or.inl ⟨by kernel_rfl, ?hy7ab⟩) (by assumption) ?r7ab
            case hy7ab => (intro w hSw; (try dsimp only at hSw); go_simp; with_reducible rfl)
            try simp only [Act.put]
            obtain ⟨T', ht'⟩ := ND.out.tab.is
            have hz2 := ht'.size
            have ST := store_tab BU.out z0_size ht'.size ht'.one
            have BN := Lib.hid (Blk.row BU.out tu)
            have NN := Lib.hid (ND.out.row hbu tu)
            have KN := Lib.hid (below_row Wx8.out hbw tu)
            clear ht' ND
            refine wpAnyH_ready (rs := [9]) (by kernel_rfl) (by simp) (AllReadyH.cons rfl (fun K' hK => ?_) AllReadyH.nil)
            go_simp
            refine hK.out _ _ (HS.out _ KN.out) (fun hHeld => ?_)
            clear hK K' ST hz2
            refine wpAnyH_ready (rs := [10]) (by kernel_rfl) (by simp) (AllReadyH.cons rfl (fun K' hK => ?_) AllReadyH.nil)
            go_simp
            refine hK.out _ _ (HS.out _ KN.out) (fun hHeld => ?_)
            clear hK K' hHeld
            refine wpAnyH_done (by kernel_rfl) ?_ _
            go_wp2_with fail
            go_meet
            exact ⟨_, _, _, rfl, rfl, BN.out, NN.out, KN.out⟩
        · go_simp
          have Wx9 := Lib.hid (show Below wb.heap.size wb (x0.alloc (.cells Z0v 26)) from DW.out.trans ((below_alloc (Below.refl _ _) _).mono DW.out.size))
          have BU := Lib.hid (Blk.made x0 26 Z0v)
          have hbz : x0.heap.size < (x0.alloc (.cells Z0v 26)).heap.size := by rw [World.size_alloc]; omega
          refine hK.out _ _ (HS.out _ Wx9.out) (fun hHeld => ?_)
          clear hK K'
          have hbw : wb.heap.size ≤ x0.heap.size := DW.out.size
          generalize x0.alloc (.cells Z0v 26) = x9 at *
          generalize x0.heap.size = bu at *
          have hbu : bu < x9.heap.size := hbz
          refine wpAnyH_ready (rs := [1]) (by kernel_rfl) (by simp) (AllReadyH.cons rfl (fun K' hK => ?_) AllReadyH.nil)
          go_simp
          have Wx10 := Lib.hid (show Below wb.heap.size wb (x9.alloc (.cells #[] 3)) from Wx9.out.trans ((below_alloc (Below.refl _ _) _).mono Wx9.out.size))
          have OW := Lib.hid (own_built x9)
          have BU := Lib.hid (BU.out.alloc (.cells #[] 3))
          have hbu : bu < (x9.alloc (.cells #[] 3)).heap.size := by rw [World.size_alloc]; omega
          have hba : bu ≠ x9.heap.size := by omega
          have hsa : x9.heap.size < (x9.alloc (.cells #[] 3)).heap.size := by rw [World.size_alloc]; omega
          have hsb : wb.heap.size ≤ x9.heap.size := Wx9.out.size
          refine hK.out _ _ (HS.out _ Wx10.out) (fun hHeld => ?_)
          clear hK K'
          generalize x9.alloc (.cells #[] 3) = x10 at *
          generalize x9.heap.size = ba at *
          refine wpAnyH_ready (rs := [3]) (by kernel_rfl) (by simp) (AllReadyH.cons rfl (fun K' hK => ?_) AllReadyH.nil)
          rw [if_pos (by rfl)]
          refine wp_copy (w := x10) (.tmp 39) (.tmp 40) rfl ba l (.slice (some ⟨ba, 0, none⟩) 0 0) (.slice A ll cap) rfl OW.out rfl (HVB.out.below Wx10.out) (by omega) (Nat.le_of_lt hsa) ?_
          intro v' x11 ho kb hgr
          have Wx11 := Lib.hid (Wx10.out.trans (kb.mono hsb))
          have BU := Lib.hid (BU.out.grown hgr (fun e => hba (by injection e)))
          have hbu : bu < x11.heap.size := BU.out.lt
          rw [hll] at ho
          obtain ⟨ao, co, rfl, _⟩ := own_form ho
          have OI := Lib.hid ((IntsAt.own (l := l) (by rw [hll]; exact ho)).mono (Nat.zero_le _))
          clear ho kb hgr OW
          refine hK.out _ _ (HS.out _ Wx11.out) (fun hHeld => ?_)
          clear hK K'
          refine wpAnyH_ready (rs := [4]) (by kernel_rfl) (by simp) (AllReadyH.cons rfl (fun K' hK => ?_) AllReadyH.nil)
          go_simp
          go_wp2_with fail
          refine (NC1.out _ _ (HRB.out.below Wx11.out) OI.out).mono ?_
          rintro e x12 ⟨tu, c, rfl, hd, kk⟩
          have ND := Lib.hid (show NumD T l x12 (x11.heap.size + 2) tu c from NumD.of hd)
          have Wx12 := Lib.hid (Wx11.out.trans (kk.mono Wx11.out.size))
          have BU := Lib.hid (BU.out.below kk)
          replace hbu : bu < x11.heap.size + 2 := by omega
          clear hd kk OI
          refine hK.out _ _ (HS.out _ Wx12.out) (fun hHeld => ?_)
          clear hK K'
          refine' wpAnyH_take (i := 5) (v := _) rfl (by kernel_rfl) (by kernel_rfl) (by kernel_rfl) (fun _ _ _ h => h) (Or.inl ⟨by kernel_rfl, ?hy5b⟩) (by assumption) ?r5b
          case hy5b => (intro w hSw; (try dsimp only at hSw); go_simp; with_reducible rfl)
          try simp only [Act.put]
          refine' wpAnyH_take (i := 6) (v := _) rfl (by kernel_rfl) (by kernel_rfl) (by kernel_rfl) (fun _ _ _ h => h) (Or.inl ⟨by kernel_rfl, ?hy6b⟩) (by assumption) ?r6b
          case hy6b => (intro w hSw; (try dsimp only at hSw); go_simp; with_reducible rfl)
          try simp only [Act.put]
          refine' wpAnyH_take (i := 7) (v := _) rfl (by kernel_rfl) (by kernel_rfl) (by kernel_rfl) (fun _ _ _ h => h) (Or.inl ⟨by kernel_rfl, ?hy7b⟩) (by assumption) ?r7b
          case hy7b => (intro w hSw; (try dsimp only at hSw); go_simp; with_reducible rfl)
          try simp only [Act.put]
          obtain ⟨T', ht'⟩ := ND.out.tab.is
          have hz2 := ht'.size
          have ST := store_tab BU.out z0_size ht'.size ht'.one
          have BN := Lib.hid (Blk.row BU.out tu)
          have NN := Lib.hid (ND.out.row hbu tu)
          have KN := Lib.hid (below_row Wx12.out hbw tu)
          clear ht' ND
          refine wpAnyH_ready (rs := [9]) (by kernel_rfl) (by simp) (AllReadyH.cons rfl (fun K' hK => ?_) AllReadyH.nil)
          go_simp
          refine hK.out _ _ (HS.out _ KN.out) (fun hHeld => ?_)
          clear hK K' ST hz2
          refine wpAnyH_ready (rs := [10]) (by kernel_rfl) (by simp) (AllReadyH.cons rfl (fun K' hK => ?_) AllReadyH.nil)
          go_simp
          refine hK.out _ _ (HS.out _ KN.out) (fun hHeld => ?_)
          clear hK K' hHeld
          refine wpAnyH_done (by kernel_rfl) ?_ _
          go_wp2_with fail
          go_meet
          exact ⟨_, _, _, rfl, rfl, BN.out, NN.out, KN.out⟩
      case rest =>
        obtain ⟨bu, tu, c, rfl, rfl, hbl, hnt, hw⟩ := hcut
        rename World => wc
        have KC := Lib.hid (KB.out.trans (hw.mono KB.out.size))
        have BU := Lib.hid hbl
        clear NC1 hw RG hbl
        have RG := Lib.hid (Blk.range (B1.out.below KC.out))
        go_wp2_with (refine wpL_tab b1 rfl tv RG.out SL.out ?_)
        unfold NumT at hnt
        rcases hnt with ⟨p, m, rfl, hn⟩ | ⟨hno, rfl, rfl⟩
        · have hrb : rightB T = true := rightB_yes p
          have PN := number_right (l := l) p m.2.1 (by omega) m.2.2
          have PP := Lib.hid p
          have MM := Lib.hid m
          have PNN := Lib.hid PN
          have SLu := Lib.hid (tab_len tu hn.size)
          have HU := Lib.hid hn
          have LC1 := Lib.hid (LC.out p (by omega))
          have LD1 := Lib.hid (LD.out tu PN (by omega))
          have LE1 := Lib.hid (LE.out p m)
          clear p m hn PN LC LD LE
          have RRC := RC.out _ (HR.out.below KC.out)
          rw [hrb] at RRC
          refine RRC.mono ?_
          rintro e w6 ⟨rfl, k6⟩
          clear RRC hrb RC
          have K6 := Lib.hid (below_step KC.out k6)
          have RG := Lib.hid (Blk.range (B1.out.below K6.out))
          have HU := Lib.hid (HU.out.below k6)
          have BU := Lib.hid (BU.out.below k6)
          clear k6
          go_wp2_with (refine wpL_tabW (by rfl) b1 rfl tv RG.out SL.out ?_)
          refine (MC1.out _ (HR.out.below K6.out) (HV.out.below K6.out)).mono ?_
          rintro e w7 ⟨⟨b, rfl, mb⟩, k7⟩
          obtain rfl : b = true := mb.2 MM.out
          have K7 := Lib.hid (below_step K6.out k7)
          have HU := Lib.hid (HU.out.below k7)
          have BU := Lib.hid (BU.out.below k7)
          clear k7 mb MC1 RG
          go_upto_region 6 with fail
          have HR7 := Lib.hid (HR.out.below K7.out)
          have HV7 := Lib.hid (HV.out.below K7.out)
          have HS := Lib.hid (show ∀ w', Below w7.heap.size w7 w' → w'.rangeAt b1 0 tv.toList ∧ w'.rangeAt bu 0 tu.toList ∧ Below w7.heap.size w7 w' from fun w' k => ⟨Blk.range ((B1.out.below K7.out).below k), Blk.range (BU.out.below k), k⟩)
          have DW := Lib.hid (show Below w7.heap.size w7 w7.drew from below_dr (Below.refl _ _))
          refine wp_region_held_drew (S := fun w' => w'.rangeAt b1 0 tv.toList ∧ w'.rangeAt bu 0 tu.toList ∧ Below w7.heap.size w7 w') (by kernel_rfl) (HS.out _ DW.out) (fun hHeld => ?_)
          refine' wpAnyH_take (i := 0) (v := _) rfl (by kernel_rfl) (by kernel_rfl) (by kernel_rfl) (fun _ _ _ h => h) (Or.inl ⟨by kernel_rfl, ?hy0g⟩) (by assumption) ?r0g
          case hy0g => (intro w hSw; (try dsimp only at hSw); go_simp; with_reducible rfl)
          try simp only [Act.put]
          refine' wpAnyH_take (i := 1) (v := _) rfl (by kernel_rfl) (by kernel_rfl) (by kernel_rfl) (fun _ _ _ h => h) (Or.inl ⟨by kernel_rfl, ?hy1g⟩) (by assumption) ?r1g
          case hy1g => (intro w hSw; (try dsimp only at hSw); go_simp; with_reducible rfl)
          try simp only [Act.put]
          refine' wpAnyH_take (i := 2) (v := _) rfl (by kernel_rfl) (by kernel_rfl) (by kernel_rfl) (fun _ _ _ h => h) (Or.inl ⟨by kernel_rfl, ?hy2g⟩) (by assumption) ?r2g
          case hy2g => (intro w hSw; (try dsimp only at hSw); go_simp; with_reducible rfl)
          try simp only [Act.put]
          refine' wpAnyH_take (i := 3) (v := _) rfl (by kernel_rfl) (by kernel_rfl) (by kernel_rfl) (fun _ _ _ h => h) (yields_tab (by kernel_rfl) _ rfl bu ?hx3g tu (fun _ h1 => h1.2.1) SLu.out) (by assumption) ?r3g
          case hx3g => (go_simp; try with_reducible rfl)
          try simp only [Act.put]
          refine' wpAnyH_take (i := 4) (v := _) rfl (by kernel_rfl) (by kernel_rfl) (by kernel_rfl) (fun _ _ _ h => h) (yields_tab (by kernel_rfl) _ rfl b1 ?hx4g tv (fun _ h1 => h1.1) SL.out) (by assumption) ?r4g
          case hx4g => (go_simp; try with_reducible rfl)
          try simp only [Act.put]
          refine' wpAnyH_take (i := 5) (v := _) rfl (by kernel_rfl) (by kernel_rfl) (by kernel_rfl) (fun _ _ _ h => h) (Or.inl ⟨by kernel_rfl, ?hy5g⟩) (by assumption) ?r5g
          case hy5g => (intro w hSw; (try dsimp only at hSw); go_simp; with_reducible rfl)
          try simp only [Act.put]
          refine wpAnyH_ready (rs := [6]) (by kernel_rfl) (by simp) (AllReadyH.cons rfl (fun K' hK => ?_) AllReadyH.nil)
          go_simp
          go_wp2_with fail
          refine (rnumber_c tv T PP.out l (by omega) MM.out.2.1 _ _ (HR7.out.below DW.out) (HV7.out.below DW.out)).mono ?_
          rintro e y1 ⟨⟨rv, rfl, hr, _⟩, kk⟩
          have HRV := Lib.hid hr
          have Wy1 := Lib.hid (below_step DW.out kk)
          clear hr kk
          refine hK.out _ _ (HS.out _ Wy1.out) (fun hHeld => ?_)
          clear hK K'
          refine wpAnyH_ready (rs := [7]) (by kernel_rfl) (by simp) (AllReadyH.cons rfl (fun K' hK => ?_) AllReadyH.nil)
          go_simp
          go_wp2_with fail
          refine (same17_c tu rv (numberT T l) (by have := PNN.out.n3; omega) (by have := PNN.out.n3; have := PNN.out.nt; omega) (fun r hr => by obtain ⟨i, hi, rfl⟩ := List.getElem_of_mem hr; have := PNN.out.rows i hi; have := PNN.out.c2; omega) _ (HU.out.below Wy1.out) HRV.out).mono ?_
          rintro e y2 ⟨rfl, kk⟩
          have Wy2 := Lib.hid (below_step Wy1.out kk)
          clear kk HRV
          refine hK.out _ _ (HS.out _ Wy2.out) (fun hHeld => ?_)
          clear hK K'
          refine' wpAnyH_take (i := 8) (v := _) rfl (by kernel_rfl) (by kernel_rfl) (by kernel_rfl) (fun _ _ _ h => h) (Or.inl ⟨by kernel_rfl, ?hy8g⟩) (by assumption) ?r8g
          case hy8g => (intro w hSw; (try dsimp only at hSw); go_simp; with_reducible rfl)
          try simp only [Act.put]
          refine' wpAnyH_take (i := 9) (v := _) rfl (by kernel_rfl) (by kernel_rfl) (by kernel_rfl) (fun _ _ _ h => h) (Or.inl ⟨by kernel_rfl, ?hy9g⟩) (by assumption) ?r9g
          case hy9g => (intro w hSw; (try dsimp only at hSw); go_simp; with_reducible rfl)
          try simp only [Act.put]
          clear hHeld
          refine wpAnyH_done (by kernel_rfl) ?_ _
          have K8 := Lib.hid (K7.out.trans (Wy2.out.mono K7.out.size))
          have RG := Lib.hid (Blk.range (B1.out.below K8.out))
          have HU := Lib.hid (HU.out.below Wy2.out)
          have BU := Lib.hid (BU.out.below Wy2.out)
          clear Wy1 Wy2 DW HS HR7 HV7
          go_wp2_with (refine wpL_tab b1 rfl tv RG.out SL.out ?_)
          refine (LC1.out 0 (by omega) _ (HR.out.below K8.out)).mono ?_
          rintro e w9 ⟨rfl, k9⟩
          have K9 := Lib.hid (below_step K8.out k9)
          have HU := Lib.hid (HU.out.below k9)
          have RGu := Lib.hid (Blk.range (BU.out.below k9))
          clear k9 RG
          go_wp2_with (refine wpL_tab bu rfl tu RGu.out SLu.out ?_)
          refine (LD1.out 0 (by omega) _ HU.out).mono ?_
          rintro e w10 ⟨rfl, k10⟩
          have K10 := Lib.hid (below_step K9.out k10)
          clear k10 RGu
          obtain ⟨c0, c1, cr, an, cn, at_, ct, c3, c4, hra, hta⟩ := (HT.out.below K10.out).cells
          clear c0 c1 cr c4 hra hta
          by_cases hfl : T.next.length ≤ ll
          · have t1 : decide ((ll : Int) < (T.next.length : Int)) = false := by simp; omega
            rw [LE1.out hfl]
            generalize (longest T s 0).1 = x1 at *
            generalize (longest T s 0).2 = x2 at *
            go_wp2_with fail
            go_returns
            exact ⟨by first | rfl | simp, by rw [hg]; exact W0.out.trans (K10.out.mono (by rw [← hg]; exact W0.out.size))⟩
          · have t1 : decide ((ll : Int) < (T.next.length : Int)) = true := by simp; omega
            generalize (longest T s 0).1 = x1 at *
            generalize (longest T s 0).2 = x2 at *
            generalize (longest (numberT T l) s 0).1 = x3 at *
            generalize (longest (numberT T l) s 0).2 = x4 at *
            go_wp2_with fail
            go_returns
            exact ⟨by first | rfl | simp, by rw [hg]; exact W0.out.trans (K10.out.mono (by rw [← hg]; exact W0.out.size))⟩
        · clear LC LD LE
          have SLu := Lib.hid (tab_len Z0v z0_size)
          have RRC := RC.out _ (HR.out.below KC.out)
          have NO := Lib.hid hno
          clear hno
          cases hrb : rightB T with
          | true =>
            rw [hrb] at RRC
            refine RRC.mono ?_
            rintro e w6 ⟨rfl, k6⟩
            clear RRC RC
            have K6 := Lib.hid (below_step KC.out k6)
            have RG := Lib.hid (Blk.range (B1.out.below K6.out))
            have BU := Lib.hid (BU.out.below k6)
            clear k6
            go_wp2_with (refine wpL_tabW (by rfl) b1 rfl tv RG.out SL.out ?_)
            refine (MC1.out _ (HR.out.below K6.out) (HV.out.below K6.out)).mono ?_
            rintro e w7 ⟨⟨b, rfl, mb⟩, k7⟩
            obtain rfl : b = false := by
              cases b with
              | false => rfl
              | true => exact absurd ⟨(rightB_iff T).1 hrb, mb.1 rfl⟩ NO.out
            have K7 := Lib.hid (below_step K6.out k7)
            have RGu := Lib.hid (Blk.range (BU.out.below k7))
            clear k7 mb MC1 RG hrb
            go_upto_region 5 with fail
            go_wp2_with (refine wpL_tabW (by rfl) bu rfl Z0v RGu.out SLu.out ?_)
            refine (same17_c Z0v Z0v T0 (by decide) (by decide) (fun r hr => nomatch hr) _ (z0_tab _) (z0_tab _)).mono ?_
            rintro e w9 ⟨rfl, k9⟩
            have K9 := Lib.hid (below_step K7.out k9)
            clear k9
            go_wp2_with fail
            go_returns
            exact ⟨rfl, by rw [hg]; exact W0.out.trans (K9.out.mono (by rw [← hg]; exact W0.out.size))⟩
          | false =>
            rw [hrb] at RRC
            refine RRC.mono ?_
            rintro e w6 ⟨rfl, k6⟩
            clear RRC RC
            have K6 := Lib.hid (below_step KC.out k6)
            have RGu := Lib.hid (Blk.range (BU.out.below k6))
            clear k6 hrb MC1 RG
            go_upto_region 5 with fail
            go_wp2_with (refine wpL_tabW (by rfl) bu rfl Z0v RGu.out SLu.out ?_)
            refine (same17_c Z0v Z0v T0 (by decide) (by decide) (fun r hr => nomatch hr) _ (z0_tab _) (z0_tab _)).mono ?_
            rintro e w9 ⟨rfl, k9⟩
            have K9 := Lib.hid (below_step K6.out k9)
            clear k9
            go_wp2_with fail
            go_returns
            exact ⟨rfl, by rw [hg]; exact W0.out.trans (K9.out.mono (by rw [← hg]; exact W0.out.size))⟩
end Go.Proofs.Ytafcnehinanecaa
