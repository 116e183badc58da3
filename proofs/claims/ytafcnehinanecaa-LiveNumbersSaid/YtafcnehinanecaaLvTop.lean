/- live.Order, Reached, Useful. -/
import Derived.Test.YtafcnehinanecaaLvMet
import Derived.Test.YtafcnehinanecaaLvUse
import Derived.Test.YtafcnehinanecaaLvPure
namespace Go.Proofs.Ytafcnehinanecaa
open Go.RowKit
theorem entAny : ∀ (args : Array Value) (w : World), (callFunc 31 args).run Try.prog w = .ok (.enter 31 args) w := enters_of Try.func31 (by kernel_rfl) rfl
theorem entTrim : ∀ (args : Array Value) (w : World), (callFunc 29 args).run Try.prog w = .ok (.enter 29 args) w := enters_of Try.func29 (by kernel_rfl) rfl
theorem any_c (v : Value) (w : World) : PredB 31 #[] v true w := fun W _ => by
  show Calls Try.prog 31 #[v] W _
  go_enter Try.func31, Try.ntmps31
  go_wp2
  go_returns
  exact ⟨rfl, Below.refl _ _⟩
theorem trim1_c (m : List Bool) (k : Int) (h0 : 0 ≤ k) (h1 : k < m.length) (b ib : Nat) (w : World) (hb : Blk w b 45 #[.slice (some ⟨ib, 0, none⟩) m.length m.length]) (hi : Blk w ib 4 (bools m)) :
    PredB 29 #[.pointer (some ⟨b, 0, none⟩)] (.int .i64 k) (m.getD k.toNat false) w := fun W hW => by
  show Calls Try.prog 29 #[.int .i64 k, .pointer (some ⟨b, 0, none⟩)] W _
  obtain ⟨kn, rfl⟩ := Int.eq_ofNat_of_zero_le h0
  have c0 := (hb.below hW).cell 0
  simp at c0
  have c1 := ((hi.below hW).cell kn).trans (bools_at (by omega))
  have t1 : decide (kn < m.length) = true := by simp; omega
  rw [show ((kn : Int)).toNat = kn from rfl]
  generalize m.getD kn false = x at *
  clear hW
  go_enter Try.func29, Try.ntmps29
  go_wp2
  go_returns
  exact ⟨rfl, Below.refl _ _⟩
noncomputable def allM : Int → Bool := fun _ => true
attribute [local irreducible] Calls
set_option maxHeartbeats 2000000 in
set_option maxRecDepth 100000 in
theorem lorder_c (tv : Array Value) (T : Tb) (p : RightP T) (w : World) (h : TbR w tv T) : Calls Try.prog 14 #[.agg tv] w fun e w' => ∃ v, e = .returned v ∧ Own w' w.heap.size v (order T allM) ∧ Below w.heap.size w w' := by
  have K0 := below_alloc (Below.refl w.heap.size w) (.cells tv 26)
  have W0 := Lib.hid K0
  have HT := Lib.hid h.boxed
  have HR := Lib.hid (h.below K0)
  have RG := Lib.hid (Blk.range (Blk.made w 26 tv))
  have SL := Lib.hid (show (Try.prog.info? 26).map (·.size) = some tv.toList.length from by rw [Array.length_toList, h.size]; exact info_tab)
  have RC := Lib.hid (show ∀ w, TbR w tv T → Calls Try.prog 25 #[.agg tv] w fun e w' => e = .returned (.bool true) ∧ Below w.heap.size w w' from fun w h => by have := right_c tv T w h; rwa [rightB_yes p] at this)
  have MC := Lib.hid (fun w1 (h1 : TbAt w1 w.heap.size T) => met_c 31 #[] entAny allM T p w.heap.size w1 h1 (fun k _ _ => any_c _ _))
  clear h K0
  go_enter Try.func14, Try.ntmps14
  have hsz : w.heap.size < (w.alloc (.cells tv 26)).heap.size := by rw [World.size_alloc]; omega
  go_upto_region 1 with fail
  generalize w.alloc (.cells tv 26) = wb at *
  go_wp2_with (refine wpList_load_mid rfl 26 _ rfl w.heap.size 0 rfl tv.toList _ RG.out Try.underlying26 rfl SL.out ?_; rw [Array.toArray_toList])
  go_wp2_with (first | (go_at_call 25; refine (RC.out _ HR.out).mono ?_; rintro e w1 ⟨rfl, k1⟩; have HT1 := Lib.hid (HT.out.below k1); have W1 := Lib.hid (below_step W0.out k1); clear k1) | (go_at_call 28; refine (MC.out _ HT1.out).mono ?_; rintro e w2 ⟨v, rfl, h1, h2⟩; have HO := Lib.hid h1; have W2 := Lib.hid (below_step W1.out h2); clear h1 h2))
  go_ret
  exact ⟨v, rfl, own_mono HO.out W1.out.size, W2.out⟩
set_option maxHeartbeats 2000000 in
set_option maxRecDepth 100000 in
theorem lorder_no (tv : Array Value) (T : Tb) (p : ¬ RightP T) (w : World) (h : TbR w tv T) : Calls Try.prog 14 #[.agg tv] w fun e w' => ∃ v, e = .returned v ∧ Own w' w.heap.size v ([]) ∧ Below w.heap.size w w' := by
  have K0 := below_alloc (Below.refl w.heap.size w) (.cells tv 26)
  have W0 := Lib.hid K0
  have HT := Lib.hid h.boxed
  have HR := Lib.hid (h.below K0)
  have RG := Lib.hid (Blk.range (Blk.made w 26 tv))
  have SL := Lib.hid (show (Try.prog.info? 26).map (·.size) = some tv.toList.length from by rw [Array.length_toList, h.size]; exact info_tab)
  have RC := Lib.hid (show ∀ w, TbR w tv T → Calls Try.prog 25 #[.agg tv] w fun e w' => e = .returned (.bool false) ∧ Below w.heap.size w w' from fun w h => by have := right_c tv T w h; rwa [rightB_no p] at this)
  clear h K0
  go_enter Try.func14, Try.ntmps14
  have hsz : w.heap.size < (w.alloc (.cells tv 26)).heap.size := by rw [World.size_alloc]; omega
  go_upto_region 1 with fail
  generalize w.alloc (.cells tv 26) = wb at *
  go_wp2_with (refine wpList_load_mid rfl 26 _ rfl w.heap.size 0 rfl tv.toList _ RG.out Try.underlying26 rfl SL.out ?_; rw [Array.toArray_toList])
  go_wp2_with (go_at_call 25; refine (RC.out _ HR.out).mono ?_; rintro e w1 ⟨rfl, k1⟩; have HT1 := Lib.hid (HT.out.below k1); have W1 := Lib.hid (below_step W0.out k1); clear k1)
  go_ret
  exact ⟨_, rfl, World.ownsRow_nil _ _ _ _, W1.out⟩
set_option maxHeartbeats 2000000 in
set_option maxRecDepth 100000 in
theorem lreached_c (tv : Array Value) (T : Tb) (p : RightP T) (w : World) (h : TbR w tv T) : Calls Try.prog 12 #[.agg tv] w fun e w' => ∃ v, e = .returned v ∧ Own w' w.heap.size v (sortI (order T allM)) ∧ Below w.heap.size w w' := by
  have K0 := below_alloc (Below.refl w.heap.size w) (.cells tv 26)
  have W0 := Lib.hid K0
  have HT := Lib.hid h.boxed
  have HR := Lib.hid (h.below K0)
  have RG := Lib.hid (Blk.range (Blk.made w 26 tv))
  have SL := Lib.hid (show (Try.prog.info? 26).map (·.size) = some tv.toList.length from by rw [Array.length_toList, h.size]; exact info_tab)
  have OC := Lib.hid (fun w1 h1 => lorder_c tv T p w1 h1)
  have SC := Lib.hid (fun l hl b v w h => sort_c l hl b v w h)
  clear h K0
  go_enter Try.func12, Try.ntmps12
  have hsz : w.heap.size < (w.alloc (.cells tv 26)).heap.size := by rw [World.size_alloc]; omega
  go_upto_region 1 with fail
  generalize w.alloc (.cells tv 26) = wb at *
  go_wp2_with (refine wpList_load_mid rfl 26 _ rfl w.heap.size 0 rfl tv.toList _ RG.out Try.underlying26 rfl SL.out ?_; rw [Array.toArray_toList])
  go_wp2_with (first | (go_at_call 14; refine (OC.out _ HR.out).mono ?_; rintro e w1 ⟨v1, rfl, h1, h2⟩; have HO := Lib.hid h1; have W1 := Lib.hid (below_step W0.out h2); have SX := Lib.hid (SC.out _ (by have := order_len p allM; have := p.n3; omega) _ v1 w1 h1); clear h1 h2) | (go_at_call 30; refine SX.out.mono ?_; rintro e w2 ⟨rfl, h1, h2⟩; have HO2 := Lib.hid h1; have W2 := Lib.hid (W1.out.trans (h2.mono W0.out.size)); clear h1 h2))
  go_ret
  exact ⟨_, rfl, by unfold Own at *; rw [sortI_len] at *; exact own_mono HO2.out W0.out.size, W2.out⟩
set_option maxHeartbeats 2000000 in
set_option maxRecDepth 100000 in
theorem lreached_no (tv : Array Value) (T : Tb) (p : ¬ RightP T) (w : World) (h : TbR w tv T) : Calls Try.prog 12 #[.agg tv] w fun e w' => ∃ v, e = .returned v ∧ Own w' w.heap.size v ([]) ∧ Below w.heap.size w w' := by
  have K0 := below_alloc (Below.refl w.heap.size w) (.cells tv 26)
  have W0 := Lib.hid K0
  have HT := Lib.hid h.boxed
  have HR := Lib.hid (h.below K0)
  have RG := Lib.hid (Blk.range (Blk.made w 26 tv))
  have SL := Lib.hid (show (Try.prog.info? 26).map (·.size) = some tv.toList.length from by rw [Array.length_toList, h.size]; exact info_tab)
  have OC := Lib.hid (fun w1 h1 => lorder_no tv T p w1 h1)
  have SC := Lib.hid (fun l hl b v w h => sort_c l hl b v w h)
  clear h K0
  go_enter Try.func12, Try.ntmps12
  have hsz : w.heap.size < (w.alloc (.cells tv 26)).heap.size := by rw [World.size_alloc]; omega
  go_upto_region 1 with fail
  generalize w.alloc (.cells tv 26) = wb at *
  go_wp2_with (refine wpList_load_mid rfl 26 _ rfl w.heap.size 0 rfl tv.toList _ RG.out Try.underlying26 rfl SL.out ?_; rw [Array.toArray_toList])
  go_wp2_with (first | (go_at_call 14; refine (OC.out _ HR.out).mono ?_; rintro e w1 ⟨v1, rfl, h1, h2⟩; have HO := Lib.hid h1; have W1 := Lib.hid (below_step W0.out h2); have SX := Lib.hid (SC.out _ (by simp) _ v1 w1 h1); clear h1 h2) | (go_at_call 30; refine SX.out.mono ?_; rintro e w2 ⟨rfl, h1, h2⟩; have HO2 := Lib.hid h1; have W2 := Lib.hid (W1.out.trans (h2.mono W0.out.size)); clear h1 h2))
  go_ret
  rw [show sortI [] = [] from by unfold sortI; simp] at HO2
  exact ⟨_, rfl, own_mono HO2.out W0.out.size, W2.out⟩
set_option maxHeartbeats 2000000 in
set_option maxRecDepth 100000 in
theorem luseful_no (tv : Array Value) (T : Tb) (p : ¬ RightP T) (w : World) (h : TbR w tv T) : Calls Try.prog 13 #[.agg tv] w fun e w' => ∃ v, e = .returned v ∧ Own w' w.heap.size v ([]) ∧ Below w.heap.size w w' := by
  have K0 := below_alloc (Below.refl w.heap.size w) (.cells tv 26)
  have W0 := Lib.hid K0
  have HT := Lib.hid h.boxed
  have HR := Lib.hid (h.below K0)
  have RG := Lib.hid (Blk.range (Blk.made w 26 tv))
  have SL := Lib.hid (show (Try.prog.info? 26).map (·.size) = some tv.toList.length from by rw [Array.length_toList, h.size]; exact info_tab)
  have RC := Lib.hid (show ∀ w, TbR w tv T → Calls Try.prog 25 #[.agg tv] w fun e w' => e = .returned (.bool false) ∧ Below w.heap.size w w' from fun w h => by have := right_c tv T w h; rwa [rightB_no p] at this)
  clear h K0
  go_enter Try.func13, Try.ntmps13
  have hsz : w.heap.size < (w.alloc (.cells tv 26)).heap.size := by rw [World.size_alloc]; omega
  go_upto_region 1 with fail
  generalize w.alloc (.cells tv 26) = wb at *
  go_wp2_with (refine wpList_load_mid rfl 26 _ rfl w.heap.size 0 rfl tv.toList _ RG.out Try.underlying26 rfl SL.out ?_; rw [Array.toArray_toList])
  go_wp2_with (go_at_call 25; refine (RC.out _ HR.out).mono ?_; rintro e w1 ⟨rfl, k1⟩; have HT1 := Lib.hid (HT.out.below k1); have W1 := Lib.hid (below_step W0.out k1); clear k1)
  go_ret
  exact ⟨_, rfl, World.ownsRow_nil _ _ _ _, W1.out⟩
set_option maxHeartbeats 2000000 in
set_option maxRecDepth 100000 in
theorem lusefull_c (tv : Array Value) (T : Tb) (p : RightP T) (w : World) (h : TbR w tv T) : Calls Try.prog 13 #[.agg tv] w fun e w' => ∃ v, e = .returned v ∧ Own w' w.heap.size v (usefulL T) ∧ Below w.heap.size w w' := by
  have K0 := below_alloc (Below.refl w.heap.size w) (.cells tv 26)
  have W0 := Lib.hid K0
  have HT := Lib.hid h.boxed
  have HR := Lib.hid (h.below K0)
  have RG := Lib.hid (Blk.range (Blk.made w 26 tv))
  have SL := Lib.hid (show (Try.prog.info? 26).map (·.size) = some tv.toList.length from by rw [Array.length_toList, h.size]; exact info_tab)
  have RC := Lib.hid (show ∀ w, TbR w tv T → Calls Try.prog 25 #[.agg tv] w fun e w' => e = .returned (.bool true) ∧ Below w.heap.size w w' from fun w h => by have := right_c tv T w h; rwa [rightB_yes p] at this)
  have UC := Lib.hid (fun w1 (h1 : TbAt w1 w.heap.size T) => luseful_c T p w.heap.size w1 h1)
  have hn3 : T.next.length ≤ 300 := p.n3
  have TL := Lib.hid (trues_live T)
  clear h K0
  go_enter Try.func13, Try.ntmps13
  have hsz : w.heap.size < (w.alloc (.cells tv 26)).heap.size := by rw [World.size_alloc]; omega
  go_upto_region 1 with fail
  generalize w.alloc (.cells tv 26) = wb at *
  go_wp2_with (refine wpList_load_mid rfl 26 _ rfl w.heap.size 0 rfl tv.toList _ RG.out Try.underlying26 rfl SL.out ?_; rw [Array.toArray_toList])
  go_wp2_with (first | (go_at_call 25; refine (RC.out _ HR.out).mono ?_; rintro e w1 ⟨rfl, k1⟩; have HT1 := Lib.hid (HT.out.below k1); have W1 := Lib.hid (below_step W0.out k1); clear k1) | (go_at_call 26; refine (UC.out _ HT1.out).mono ?_; rintro e w2 ⟨ib, rfl, h1, h2, h3⟩; have HB := Lib.hid h1; have W2 := Lib.hid (below_step W1.out h3); have HI := Lib.hid h2; clear h1 h2 h3))
  have hlen := liveL_len T
  have LL := Lib.hid hlen
  clear hlen
  generalize liveL T = m at *
  have hib : ib < w2.heap.size := HB.out.lt
  have BR := Lib.hid (Below.refl w2.heap.size w2)
  go_loopw [2, 3, 4, 10] (fun v _ _ i wx => ∃ k : Nat, k ≤ T.next.length ∧ i = .int .i64 k ∧ wx.ownsRow w2.heap.size 3 1 v (trues m k).length (ints (trues m k)) ∧ Below w2.heap.size w2 wx) (fun _ _ _ i _ => T.next.length - (intOf i).toNat)
  case atStart => exact ⟨0, by omega, rfl, World.ownsRow_nil _ _ _ _, BR.out⟩
  case round =>
    clear BR
    obtain ⟨k, hk, rfl, hown, hw⟩ := hrel
    have HO := Lib.hid hown
    have HW := Lib.hid hw
    have hs : w2.heap.size ≤ wr.heap.size := hw.size
    have hcl : (trues m k).length ≤ k := trues_len m k
    clear hown
    by_cases hlt : k < T.next.length
    · have t1 : decide (k < T.next.length) = true := by simpa
      have cb := ((HB.out.below hw).cell k).trans (bools_at (by rw [LL.out]; exact hlt))
      have TS := Lib.hid (trues_succ m k)
      clear hw
      generalize m.getD k false = b at *
      generalize trues m k = cur at *
      cases b with
      | true =>
        have TS2 := Lib.hid (show trues m (k + 1) = cur ++ [(k : Int)] from by have := TS.out; rwa [if_pos rfl] at this)
        go_wp2_with (at_builtin; refine wpList_push rfl (.tmp 16) (.tmp 18) rfl w2.heap.size cur k _ rfl HO.out rfl (by omega) hs ?_; intro v' w3 hown2 hgrow hbelow; have HO3 := Lib.hid hown2; have HW3 := Lib.hid (HW.out.trans hbelow); clear hown2 hgrow hbelow)
        go_roundw
        case rel => exact ⟨k + 1, by omega, by go_num, by rw [TS2.out]; exact HO3.out, HW3.out⟩
        case measure => simp [intOf]; omega
      | false =>
        have TS2 := Lib.hid (show trues m (k + 1) = cur from by have := TS.out; rwa [if_neg (by simp)] at this)
        go_wp2_with fail
        go_roundw
        case rel => exact ⟨k + 1, by omega, by go_num, by rw [TS2.out]; exact HO.out, HW.out⟩
        case measure => simp [intOf]; omega
    · have t1 : decide (k < T.next.length) = false := by simpa using hlt
      have KE := Lib.hid (show k = T.next.length by omega)
      clear hw
      go_wp2_with fail
      go_returns
      exact ⟨_, rfl, by unfold Own; rw [← TL.out, ← KE.out]; exact own_mono HO.out W2.out.size, below_step W2.out HW.out⟩
end Go.Proofs.Ytafcnehinanecaa
