/- The reference's Remap. -/
import Derived.Test.YtonicgbejmghkaaDoorPtRef
namespace Go.Proofs.YtonicgbejmghkaaDoor
open Go.RowKit
/-- The classes of the first n bytes; the others are 0. -/
def clN (l : List (Nat → Nat)) (n x : Nat) : Nat := if x < n then cl l x else 0
theorem fn_set_set (f : Nat → Nat) (b : Nat) (u v : Value) : ((fnV f).setIfInBounds b u).setIfInBounds b v = (fnV f).setIfInBounds b v := by
  apply Array.ext_getElem?
  intro j
  simp only [Array.getElem?_setIfInBounds, Array.size_setIfInBounds]
  by_cases e : b = j
  · subst e; simp
  · simp [e]
theorem clN_set (l : List (Nat → Nat)) (b : Nat) : (fnV (clN l b)).setIfInBounds b (.int .i64 (cl l b : Nat)) = fnV (clN l (b + 1)) := by
  rw [fnV_set]
  refine fnV_congr fun x _ => ?_
  unfold clN
  by_cases e : x = b
  · subst e; rw [if_pos rfl, if_pos (by omega)]
  · rw [if_neg e]
    by_cases h : x < b
    · rw [if_pos h, if_pos (by omega)]
    · rw [if_neg h, if_neg (by omega)]
theorem clN_0 (l : List (Nat → Nat)) : (fnV fun _ => 0) = fnV (clN l 0) := fnV_congr fun x _ => by unfold clN; rw [if_neg (by omega)]
theorem clN_all (l : List (Nat → Nat)) : fnV (clN l 256) = fnV (cl l) := fnV_congr fun x hx => by unfold clN; rw [if_pos hx]
theorem fn_at_set (f : Nat → Nat) {b : Nat} (hb : b < 256) (u : Value) : ((fnV f).setIfInBounds b u)[b]? = some u := by
  rw [Array.getElem?_setIfInBounds, if_pos rfl, if_pos (by rw [fnV_size]; exact hb)]
theorem fn_at_other (f : Nat → Nat) {a b : Nat} (ha : a < 256) (hn : b ≠ a) (u : Value) : ((fnV f).setIfInBounds b u)[a]? = some (.int .i64 (f a : Nat)) := by
  rw [Array.getElem?_setIfInBounds, if_neg hn, fnV_at f ha]
theorem reps_0 (l : List (Nat → Nat)) : (reps (same l) 0).length = 0 := rfl
theorem cl_new {l : List (Nat → Nat)} {b : Nat} (hb : b < 256) (h : ∀ a, a < b → same l a b = false) : cl l b = (reps (same l) b).length ∧ (reps (same l) (b + 1)).length = (reps (same l) b).length + 1 :=
  ⟨clsR_new (eqv_same l) hb h, by rw [reps_new h]; simp⟩
theorem cl_old {l : List (Nat → Nat)} {a b : Nat} (ha : a < b) (h : same l a b = true) : (reps (same l) (b + 1)).length = (reps (same l) b).length := by rw [reps_old (eqv_same l) ha h]
attribute [local irreducible] Calls fnV clN cl same reps nc
set_option maxHeartbeats 2000000 in
set_option maxRecDepth 100000 in
theorem rremap_c (l : List (Nat → Nat)) (ho : ∀ S ∈ l, okS S) (hl : l.length ≤ 1000) (v : Value) (w : World) (hv : SetsR w v l) : Calls Tryd.prog 10 #[v] w fun e w' => e = .returned (.tuple #[.agg (fnV (cl l)), .int .i64 (nc l : Nat)]) ∧ Below w.heap.size w w' := by
  have HV := Lib.hid hv
  have AC := Lib.hid (fun a b ha hb w1 h1 => alike_c l ho hl a b ha hb v w1 h1)
  have NCE := Lib.hid (show nc l = (reps (same l) 256).length from by unfold nc; rfl)
  obtain ⟨ao, cap, rfl, _⟩ := hv
  have Z := (zero_of_info info_ai).1
  rw [zero_fn] at Z
  have SZ := Lib.hid (show (Tryd.prog.info? 26).map (·.size) = some (fnV (cl l)).size from by rw [(zero_of_info info_ai).2, fnV_size])
  have ON := Lib.hid (fnV_one (cl l))
  have R0 := Lib.hid ((Blk.made w 26 (fnV fun _ => 0)).alloc (.cells (fnV fun _ => 0) 26))
  have F0 := Lib.hid (show Blk ((w.alloc (.cells (fnV fun _ => 0) 26)).alloc (.cells (fnV fun _ => 0) 26)) (w.heap.size + 1) 26 (fnV (clN l 0)) from by
    have := Blk.made (w.alloc (.cells (fnV fun _ => 0) 26)) 26 (fnV fun _ => 0)
    rw [World.size_alloc] at this
    exact this.cast (clN_0 l))
  have W0 := Lib.hid (below_alloc (below_alloc (Below.refl w.heap.size w) (.cells (fnV fun _ => 0) 26)) (.cells (fnV fun _ => 0) 26))
  have hfz := fnV_size fun _ => 0
  generalize (fnV fun _ => 0) = fz at *
  clear ho
  go_enter Tryd.func10, Tryd.ntmps10
  go_wp2_with fail
  clear Z
  go_loopw [5, 6] (fun n j wx => ∃ b : Nat, b ≤ 256 ∧ j = .int .i64 b ∧ n = .int .i64 ((reps (same l) b).length : Nat) ∧ Blk wx (w.heap.size + 1) 26 (fnV (clN l b)) ∧ Blk wx w.heap.size 26 fz ∧ Below w.heap.size w wx) (fun _ j _ => 256 - (intOf j).toNat)
  case atStart => exact ⟨0, by omega, rfl, by rw [reps_0]; rfl, F0.out, R0.out, W0.out⟩
  case round =>
    clear F0 R0 W0
    obtain ⟨b, hb, rfl, rfl, hf, hr, hw⟩ := hrel
    by_cases hlt : b < 256
    · have t1 : decide ((b : Int) < 256) = true := by simp; omega
      have CNE := Lib.hid (fun h => cl_new (l := l) hlt h)
      have COL := Lib.hid (fun a (ha : a < b) h => cl_old (l := l) ha h)
      have CIF := Lib.hid (fun a (ha : a < b) => cl_iff l (show a < 256 by omega) hlt)
      have CST := Lib.hid (clN_set l b)
      have rl := reps_len (same l) b
      have CAT := Lib.hid (fun a (ha : a < b) => show clN l b a = cl l a from by unfold clN; rw [if_pos ha])
      have c0 : wr.cell? ⟨w.heap.size + 1, b, none⟩ = some _ := (hf.cell b).trans (fnV_at _ hlt)
      have f0 := hf.free b
      have HF := Lib.hid (hf.set b (.int .i64 (-1)))
      have HR := Lib.hid (hr.far (p := ⟨w.heap.size + 1, b, none⟩) (by simp) (.int .i64 (-1)))
      have HW := Lib.hid (below_put hw (p := ⟨w.heap.size + 1, b, none⟩) (by simp) (.int .i64 (-1)))
      clear hf hr hw
      generalize (reps (same l) b).length = n at *
      go_wp2_with fail
      clear c0 f0
      generalize clN l b = g at *
      generalize wr.setCell _ _ = wz at *
      go_loopw [7] (fun j wx => ∃ (a : Nat) (u : Int), a ≤ b ∧ j = .int .i64 a ∧ Blk wx (w.heap.size + 1) 26 ((fnV g).setIfInBounds b (.int .i64 u)) ∧ ((u = -1 ∧ ∀ x, x < a → same l x b = false) ∨ (u = (cl l b : Nat) ∧ ∃ x, x < b ∧ same l x b = true)) ∧ Blk wx w.heap.size 26 fz ∧ Below w.heap.size w wx) (fun j _ => b - (intOf j).toNat)
      case atStart => exact ⟨0, -1, by omega, rfl, HF.out, .inl ⟨rfl, fun x h => by omega⟩, HR.out, HW.out⟩
      case round =>
        clear HF HR HW
        obtain ⟨a, u, ha, rfl, hf, hu, hr, hw⟩ := hrel
        have cb : wr.cell? ⟨w.heap.size + 1, b, none⟩ = some (.int .i64 u) := (hf.cell b).trans (fn_at_set _ hlt _)
        have fb := hf.free b
        rcases hu with ⟨rfl, hu⟩ | ⟨rfl, x, hx, hxs⟩
        · by_cases hab : a < b
          · have t2 : decide (a < b) = true := by simp; omega
            have SR := Lib.hid (HV.out.below hw)
            have HF := Lib.hid hf
            have HR := Lib.hid hr
            have HW := Lib.hid hw
            have HU := Lib.hid hu
            clear hf hr hw hu
            go_wp2_with fail
            refine (AC.out a b (by omega) hlt _ SR.out).mono ?_; rintro e w1 ⟨rfl, k1⟩
            have HF1 := Lib.hid (HF.out.below k1)
            have HR1 := Lib.hid (HR.out.below k1)
            have HW1 := Lib.hid (below_step HW.out k1)
            clear k1 HF HR HW SR cb fb
            cases hs : same l a b with
            | true =>
              have ca : w1.cell? ⟨w.heap.size + 1, a, none⟩ = some (.int .i64 (cl l b : Nat)) := by rw [← (CIF.out a hab).2 hs, ← CAT.out a hab]; exact (HF1.out.cell a).trans (fn_at_other _ (by omega) (by omega) _)
              have cb : w1.cell? ⟨w.heap.size + 1, b, none⟩ = some (.int .i64 (-1)) := (HF1.out.cell b).trans (fn_at_set _ hlt _)
              have fb := HF1.out.free b
              generalize hcc : cl l b = c at *
              have HCC := Lib.hid hcc
              clear hcc
              have HF2 := Lib.hid ((HF1.out.set b (.int .i64 (c : Nat))).cast (fn_set_set _ _ _ _))
              have HR2 := Lib.hid (HR1.out.far (p := ⟨w.heap.size + 1, b, none⟩) (by simp) (.int .i64 (c : Nat)))
              have HW2 := Lib.hid (below_put HW1.out (p := ⟨w.heap.size + 1, b, none⟩) (by simp) (.int .i64 (c : Nat)))
              clear HF1 HR1 HW1
              go_wp2_with fail
              go_roundw
              case rel => exact ⟨a + 1, (c : Nat), by omega, by go_num, HF2.out, by first | exact .inr ⟨rfl, a, hab, hs⟩ | exact .inr ⟨by rw [HCC.out], a, hab, hs⟩, HR2.out, HW2.out⟩
              case measure => go_light; simp [intOf]; omega
            | false =>
              go_wp2_with fail
              go_roundw
              case rel => exact ⟨a + 1, -1, by omega, by go_num, HF1.out, .inl ⟨rfl, fun x hx => by by_cases e : x = a; (subst e; exact hs); exact HU.out x (by omega)⟩, HR1.out, HW1.out⟩
              case measure => go_light; simp [intOf]; omega
          · obtain rfl : a = b := by omega
            have t2 : decide (a < a) = false := by simp
            obtain ⟨e1, e2⟩ := CNE.out hu
            rw [e1] at CST
            have HF2 := Lib.hid ((hf.set a (.int .i64 (n : Nat))).cast ((fn_set_set _ _ _ _).trans CST.out))
            have HR2 := Lib.hid (hr.far (p := ⟨w.heap.size + 1, a, none⟩) (by simp) (.int .i64 (n : Nat)))
            have HW2 := Lib.hid (below_put hw (p := ⟨w.heap.size + 1, a, none⟩) (by simp) (.int .i64 (n : Nat)))
            have E2 := Lib.hid e2
            clear hf hr hw hu e1 e2
            go_wp2_with fail
            go_roundw
            case rel => exact ⟨a + 1, by omega, by go_num, by rw [E2.out]; simp, HF2.out, HR2.out, HW2.out⟩
            case measure => go_light; simp [intOf] <;> omega
        · have t3 : decide (((cl l b : Nat) : Int) < 0) = false := by simp
          have E2 := Lib.hid (COL.out x hx hxs)
          have HF2 := Lib.hid (hf.cast CST.out)
          have HR2 := Lib.hid hr
          have HW2 := Lib.hid hw
          clear hf hr hw CST CAT CNE
          generalize cl l b = c at *
          by_cases hab : a < b
          · have t2 : decide (a < b) = true := by simp; omega
            go_wp2_with fail
            go_roundw
            case rel => exact ⟨b + 1, by omega, by go_num, by rw [E2.out], HF2.out, HR2.out, HW2.out⟩
            case measure => go_light; simp [intOf]; omega
          · have t2 : decide (a < b) = false := by simp; omega
            go_wp2_with fail
            go_roundw
            case rel => exact ⟨b + 1, by omega, by go_num, by rw [E2.out], HF2.out, HR2.out, HW2.out⟩
            case measure => go_light; simp [intOf]; omega
    · obtain rfl : b = 256 := by omega
      rw [clN_all] at hf
      have RG := Lib.hid (Blk.range hf)
      have SL := Lib.hid (show (Tryd.prog.info? 26).map (·.size) = some (fnV (cl l)).toList.length from by rw [(zero_of_info info_ai).2, Array.length_toList, fnV_size])
      have HR := Lib.hid hr
      have HW := Lib.hid hw
      clear hf hr hw
      go_wp2_with fail
      refine wp_load_mid 26 _ rfl (w.heap.size + 1) 0 rfl (fnV (cl l)).toList _ RG.out Tryd.underlying26 rfl SL.out ?_
      rw [Array.toArray_toList]
      have ST : (storeCells ⟨w.heap.size, 0, none⟩ (fnV (cl l)).toList).run Tryd.prog wr = .ok () (wr.setRow w.heap.size (fnV (cl l))) := by
        have := run_storeCells_from (P := Tryd.prog) w.heap.size 26 (fnV (cl l)).toList 0 fz wr HR.out (by rw [Array.length_toList, fnV_size, hfz]) (fun v hv => (Array.all_eq_true_iff_forall_mem.1 ON.out) v (by simpa using hv))
        simpa using this
      have e4 := fnV_size (cl l)
      have HR2 := Lib.hid (Blk.row HR.out (fnV (cl l)))
      have HW2 := Lib.hid (below_row HW.out (Nat.le_refl _) (fnV (cl l)))
      have LD := fun (wq : World) (hq : Blk wq w.heap.size 26 (fnV (cl l))) => run_loadVar_row (P := Tryd.prog) wq w.heap.size 26 26 (fnV (cl l)) (0, 0) _ hq Tryd.underlying26 rfl SZ.out
      have LD1 := LD _ HR2.out
      clear LD
      go_wp2_with fail
      exact bodyPost_ret (v := .tuple #[.agg (fnV (cl l)), .int .i64 ((reps (same l) 256).length : Nat)]) (by simp [results, Tryd.results10, asAddr, LD1]) rfl ⟨by rw [NCE.out], HW2.out⟩
end Go.Proofs.YtonicgbejmghkaaDoor
