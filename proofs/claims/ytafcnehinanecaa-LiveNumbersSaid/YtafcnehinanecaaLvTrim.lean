/- live.Trim. -/
import Derived.Test.YtafcnehinanecaaLvTop
import Derived.Test.YtafcnehinanecaaLvNum
namespace Go.Proofs.Ytafcnehinanecaa
open Go.RowKit
/-- The table that is none. -/
def T0 : Tb := ⟨0, 0, List.replicate 256 0, [], []⟩
def Z0v : Array Value := tbCs 0 0 (List.replicate 256 0) (.slice none 0 0) (.slice none 0 0)
theorem z0_size : Z0v.size = 260 := tbCs_size _ _ _ _ _ List.length_replicate
theorem z0_one : Z0v.all (·.oneCell') = true := tbCs_one _ _ _ rfl rfl
theorem z0_tab (w : World) : TbR w Z0v T0 := ⟨List.length_replicate, fun n hn => by have := List.eq_of_mem_replicate hn; omega, .slice none 0 0, .slice none 0 0, rfl, ⟨none, 0, rfl, fun h => absurd h (Nat.lt_irrefl 0)⟩, ⟨none, 0, rfl, fun _ => rfl, fun h => absurd h (Nat.lt_irrefl 0)⟩⟩
theorem z0_built : Try.prog.built 26 [] = some Z0v := by kernel_rfl
theorem z0_build (w : World) : (Instr.build 26 #[]).run Try.prog w = .ok (.agg Z0v) w := run_build w 26 _ _ z0_built
theorem z0_info : (Try.prog.info? 26).map (fun i => (i.zero, i.size)) = some (some (.agg Z0v), 260) := info_tabz
theorem store_tab {w : World} {g : Nat} {z tu : Array Value} (h : Blk w g 26 z) (hz : z.size = 260) (ht : tu.size = 260) (h1 : tu.all (·.oneCell') = true) : (storeCells ⟨g, 0, none⟩ tu.toList).run Try.prog w = .ok () (w.setRow g tu) := by
  have := run_storeCells_from (P := Try.prog) g 26 tu.toList 0 z w h (by rw [Array.length_toList, ht, hz]) (fun v hv => (Array.all_eq_true_iff_forall_mem.1 h1) v (by simpa using hv))
  simpa using this
theorem load_tab {w : World} {g : Nat} {tu : Array Value} (h : Blk w g 26 tu) (ht : tu.size = 260) : (loadVar 26 ⟨g, 0, none⟩).run Try.prog w = .ok (.agg tu) w := run_loadVar_row (P := Try.prog) _ g 26 26 tu (0, 0) _ h Try.underlying26 rfl (by rw [ht]; exact info_tab)
attribute [irreducible] Z0v
attribute [local irreducible] Calls
set_option maxHeartbeats 4000000 in
set_option maxRecDepth 100000 in
theorem ltrim_c (tv : Array Value) (T : Tb) (p : RightP T) (w : World) (h : TbR w tv T) : Calls Try.prog 9 #[.agg tv] w fun e w' => ∃ tu, e = .returned (.tuple #[.agg tu, .int .i64 0]) ∧ TbR w' tu (trimT T) ∧ Below w.heap.size w w' := by
  have Z := (zero_of_info z0_info).1
  have K0 := below_alloc (below_alloc (Below.refl w.heap.size w) (.cells tv 26)) (.cells Z0v 26)
  have W0 := Lib.hid K0
  have HT := Lib.hid (h.boxed.below (below_alloc (Below.refl _ _) (.cells Z0v 26)))
  have HR := Lib.hid (h.below K0)
  have R0 := Lib.hid (show Blk ((w.alloc (.cells tv 26)).alloc (.cells Z0v 26)) (w.heap.size + 1) 26 Z0v from by
    have := Blk.made (w.alloc (.cells tv 26)) 26 Z0v
    rwa [World.size_alloc] at this)
  have RG := Lib.hid (Blk.range ((Blk.made w 26 tv).alloc (.cells Z0v 26)))
  have SL := Lib.hid (show (Try.prog.info? 26).map (·.size) = some tv.toList.length from by rw [Array.length_toList, h.size]; exact info_tab)
  have RC := Lib.hid (show ∀ w, TbR w tv T → Calls Try.prog 25 #[.agg tv] w fun e w' => e = .returned (.bool true) ∧ Below w.heap.size w w' from fun w h => by have := right_c tv T w h; rwa [rightB_yes p] at this)
  have UC := Lib.hid (fun w1 (h1 : TbAt w1 w.heap.size T) => luseful_c T p w.heap.size w1 h1)
  have MC := Lib.hid (show ∀ ib w2, Blk w2 ib 4 (bools (liveL T)) → TbAt w2 w.heap.size T → Calls Try.prog 28 #[.pointer (some ⟨w.heap.size, 0, none⟩), .func (.func 29) #[] #[.pointer (some ⟨w2.heap.size, 0, none⟩)]] (w2.alloc (.cells #[.slice (some ⟨ib, 0, none⟩) T.next.length T.next.length] 45)) fun e w' => ∃ v, e = .returned v ∧ Own w' w2.heap.size v (order T (liveM T)) ∧ Below w2.heap.size w2 w' from fun ib w2 hb ht => by
    have hll := liveL_len T
    refine (met_c 29 #[.pointer (some ⟨w2.heap.size, 0, none⟩)] entTrim (liveM T) T p w.heap.size _ (ht.below (below_alloc (Below.refl _ _) _)) (fun k h0 h1 => ?_)).mono ?_
    · have := trim1_c (liveL T) k h0 (by rw [hll]; exact h1) w2.heap.size ib (w2.alloc (.cells #[.slice (some ⟨ib, 0, none⟩) T.next.length T.next.length] 45)) ((Blk.made ..).cast (by rw [hll])) (hb.alloc _)
      rw [liveL_at (by omega)] at this
      exact this
    · rintro e w' ⟨v, rfl, h1, h2⟩
      exact ⟨v, rfl, own_mono h1 (by rw [World.size_alloc]; omega), below_step (below_alloc (Below.refl _ _) _) h2⟩)
  have NC := Lib.hid (fun v w4 (h4 : TbAt w4 w.heap.size T) (hv : IntsAt w4 0 v (order T (liveM T))) => lnumber_c T p (order T (liveM T)) (order_nodup p _) (fun x hx => ⟨(order_in p hx).1, (order_in p hx).2.1⟩) v w.heap.size w4 h4 hv)
  have TE := Lib.hid (trimT_eq T)
  have hsz : w.heap.size + 1 < ((w.alloc (.cells tv 26)).alloc (.cells Z0v 26)).heap.size := by rw [World.size_alloc, World.size_alloc]; omega
  clear h K0
  go_enter Try.func9, Try.ntmps9
  go_upto_region 1 with fail
  generalize (w.alloc (.cells tv 26)).alloc (.cells Z0v 26) = wb at *
  go_wp2_with (refine wpList_load_mid rfl 26 _ rfl w.heap.size 0 rfl tv.toList _ RG.out Try.underlying26 rfl SL.out ?_; rw [Array.toArray_toList])
  go_wp2_with (first
    | (go_at_call 25; refine (RC.out _ HR.out).mono ?_; rintro e w1 ⟨rfl, k1⟩; have HT1 := Lib.hid (HT.out.below k1); have W1 := Lib.hid k1; clear k1)
    | (go_at_call 26; refine (UC.out _ HT1.out).mono ?_; rintro e w2 ⟨ib, rfl, h1, h2, h3⟩; have HB := Lib.hid h1; have W2 := Lib.hid (below_step W1.out h3); have HT2 := Lib.hid (HT1.out.below h3); clear h1 h2 h3)
    | (go_at_call 28; refine (MC.out ib w2 HB.out HT2.out).mono ?_; rintro e w4 ⟨v, rfl, h1, h2⟩; have HO := Lib.hid h1; have W4 := Lib.hid (below_step W2.out h2); have HT4 := Lib.hid (HT2.out.below h2); clear h1 h2)
    | (go_at_call 27; refine (NC.out v w4 HT4.out ((IntsAt.own HO.out).mono (Nat.zero_le _))).mono ?_; rintro e w5 ⟨⟨tu, rfl, h1, h2, _⟩, h3⟩; have HTU := Lib.hid h1; have FAR := Lib.hid h2; have W5 := Lib.hid (below_step W4.out h3); have hw4 := W4.out.size; have R5 := R0.out.below W5.out; have hts := h1.size; have ST := store_tab R5 z0_size hts h1.one; have HR2 := Lib.hid (Blk.row R5 tu); have LD := load_tab HR2.out hts; clear h1 h2 h3 R5))
  exact bodyPost_ret (v := .tuple #[.agg tu, .int .i64 0]) (by simp [results, Try.results9, asAddr, LD]) rfl ⟨tu, rfl, by rw [TE.out]; exact FAR.out _ _ (by omega), below_row (W0.out.trans (W5.out.mono (by omega))) (by omega) tu⟩
set_option maxHeartbeats 4000000 in
set_option maxRecDepth 100000 in
theorem ltrim_no (tv : Array Value) (T : Tb) (p : ¬ RightP T) (w : World) (h : TbR w tv T) : Calls Try.prog 9 #[.agg tv] w fun e w' => e = .returned (.tuple #[.agg Z0v, .int .i64 1]) ∧ Below w.heap.size w w' := by
  have Z := (zero_of_info z0_info).1
  have ZB := z0_build
  have K0 := below_alloc (below_alloc (Below.refl w.heap.size w) (.cells tv 26)) (.cells Z0v 26)
  have W0 := Lib.hid K0
  have HR := Lib.hid (h.below K0)
  have R0 := Lib.hid (show Blk ((w.alloc (.cells tv 26)).alloc (.cells Z0v 26)) (w.heap.size + 1) 26 Z0v from by
    have := Blk.made (w.alloc (.cells tv 26)) 26 Z0v
    rwa [World.size_alloc] at this)
  have RG := Lib.hid (Blk.range ((Blk.made w 26 tv).alloc (.cells Z0v 26)))
  have SL := Lib.hid (show (Try.prog.info? 26).map (·.size) = some tv.toList.length from by rw [Array.length_toList, h.size]; exact info_tab)
  have RC := Lib.hid (show ∀ w, TbR w tv T → Calls Try.prog 25 #[.agg tv] w fun e w' => e = .returned (.bool false) ∧ Below w.heap.size w w' from fun w h => by have := right_c tv T w h; rwa [rightB_no p] at this)
  have hsz : w.heap.size + 1 < ((w.alloc (.cells tv 26)).alloc (.cells Z0v 26)).heap.size := by rw [World.size_alloc, World.size_alloc]; omega
  have hzz := z0_size
  clear h K0
  go_enter Try.func9, Try.ntmps9
  go_upto_region 1 with fail
  generalize (w.alloc (.cells tv 26)).alloc (.cells Z0v 26) = wb at *
  go_wp2_with (refine wpList_load_mid rfl 26 _ rfl w.heap.size 0 rfl tv.toList _ RG.out Try.underlying26 rfl SL.out ?_; rw [Array.toArray_toList])
  go_wp2_with (go_at_call 25; refine (RC.out _ HR.out).mono ?_; rintro e w1 ⟨rfl, k1⟩; have W1 := Lib.hid k1; have R5 := R0.out.below k1; have ST := store_tab R5 z0_size z0_size z0_one; have HR2 := Lib.hid (Blk.row R5 Z0v); have LD := load_tab HR2.out z0_size; clear k1 R5)
  exact bodyPost_ret (v := .tuple #[.agg Z0v, .int .i64 1]) (by simp [results, Try.results9, asAddr, LD]) rfl ⟨rfl, below_row (W0.out.trans (W1.out.mono (by omega))) (by omega) Z0v⟩
end Go.Proofs.Ytafcnehinanecaa
