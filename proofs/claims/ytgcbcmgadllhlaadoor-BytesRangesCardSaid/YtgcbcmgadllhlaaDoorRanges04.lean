/- The walk of BytesRanges. -/
import Derived.Test.YtgcbcmgadllhlaaDoorCount04
import Derived.Test.YtgcbcmgadllhlaaDoorTail
namespace Go.Proofs.YtgcbcmgadllhlaaDoor
open Go.RowKit
theorem has_zero (b : Nat) : has (fun _ => 0) b = false := by unfold has; exact Nat.zero_testBit _
theorem has_of (lo : Nat) : ∀ n, lo + n ≤ 256 → ∀ b, b < 256 → has (ofS lo n) b = decide (lo ≤ b ∧ b < lo + n)
  | 0, _, b, _ => by
    rw [show ofS lo 0 = fun _ => 0 from rfl, has_zero]
    symm; rw [decide_eq_false_iff_not]; omega
  | n + 1, h, b, hb => by
    rw [show ofS lo (n + 1) = insS (ofS lo n) (lo + n) from rfl, has_ins _ _ _ (by omega) hb, has_of lo n (by omega) b hb, Bool.eq_iff_iff]
    simp; omega
theorem of_one (lo : Nat) : ofS lo 1 = oneS lo := funext fun i => by
  show insS (fun _ => 0) (lo + 0) i = _
  unfold insS oneS
  split <;> simp_all
/-- The sum of ranges. -/
def orOf (l : List (Nat × Nat)) : Nat → Nat := l.foldl (fun S x => orS S (ofS x.1 (x.2 + 1 - x.1))) (fun _ => 0)
theorem orOf_snoc (l : List (Nat × Nat)) (x : Nat × Nat) : orOf (l ++ [x]) = orS (orOf l) (ofS x.1 (x.2 + 1 - x.1)) := by unfold orOf; rw [List.foldl_append]; rfl
theorem mem_span (a n b : Nat) : b ∈ span a n ↔ a ≤ b ∧ b < a + n := by
  unfold span
  rw [List.mem_map]
  constructor
  · rintro ⟨c, hc, rfl⟩
    rw [List.mem_range] at hc; omega
  · intro h
    exact ⟨b - a, by rw [List.mem_range]; omega, by omega⟩
theorem orOf_from (b : Nat) (hb : b < 256) : ∀ (l : List (Nat × Nat)) (T : Nat → Nat), (∀ x ∈ l, x.1 ≤ x.2 ∧ x.2 < 256) → okS T → okS (l.foldl (fun S x => orS S (ofS x.1 (x.2 + 1 - x.1))) T) ∧ has (l.foldl (fun S x => orS S (ofS x.1 (x.2 + 1 - x.1))) T) b = (has T b || decide (b ∈ bytesOf l))
  | [], T, _, hT => ⟨hT, by simp [bytesOf]⟩
  | x :: l, T, h, hT => by
    obtain ⟨h1, h2⟩ := h x (by simp)
    obtain ⟨i1, i2⟩ := orOf_from b hb l (orS T (ofS x.1 (x.2 + 1 - x.1))) (fun y hy => h y (by simp [hy])) (or_ok hT (of_ok _ _))
    refine ⟨i1, ?_⟩
    rw [List.foldl_cons, i2, has_or, has_of _ _ (by omega) b hb]
    unfold bytesOf
    rw [List.flatMap_cons, Bool.or_assoc]
    congr 1
    rw [Bool.eq_iff_iff]
    simp only [Bool.or_eq_true, decide_eq_true_eq, List.mem_append, mem_span]
theorem orOf_fact (l : List (Nat × Nat)) (h : ∀ x ∈ l, x.1 ≤ x.2 ∧ x.2 < 256) : okS (orOf l) ∧ ∀ b, b < 256 → has (orOf l) b = decide (b ∈ bytesOf l) := by
  refine ⟨(orOf_from 0 (by omega) l _ h (fun _ => by show (0 : Nat) < _; omega)).1, fun b hb => ?_⟩
  have := (orOf_from b hb l (fun _ => 0) h (fun _ => by show (0 : Nat) < _; omega)).2
  rw [has_zero, Bool.false_or] at this
  exact this
theorem orOf_ranges (S : Nat → Nat) (hS : okS S) : setV (orOf (rangesS S)) = setV S := by
  obtain ⟨h1, h2⟩ := orOf_fact (rangesS S) (fun x hx => runs_ends (has S) 256 x hx)
  refine setV_eq h1 hS fun b hb => ?_
  rw [h2 b hb, show bytesOf (rangesS S) = upto (has S) 256 from bytes_runs _ _, Bool.eq_iff_iff]
  simp [upto_mem, hb]
theorem orOf_ok (S : Nat → Nat) (k : Nat) : okS (orOf ((rangesS S).take k)) := (orOf_fact _ (fun x hx => runs_ends (has S) 256 x (List.mem_of_mem_take hx))).1
theorem orOf_take (S : Nat → Nat) {k : Nat} (hk : k < (rangesS S).length) : orOf ((rangesS S).take (k + 1)) = fun i => orOf ((rangesS S).take k) i ||| ofS (rangesS S)[k].1 ((rangesS S)[k].2 + 1 - (rangesS S)[k].1) i := by
  rw [List.take_succ_eq_append_getElem hk, orOf_snoc]; rfl
def RlAt (S : Nat → Nat) (n0 : Nat) (v : Value) (k : Nat) (w wr : World) : Prop := Blk wr n0 24 (setCs S) ∧ Blk wr (n0 + 1) 24 (setCs (orOf ((rangesS S).take k))) ∧ wr.ownsRow (n0 + 2) 30 2 v (rangesS S).length (pairs (rangesS S)) ∧ Below n0 w wr
theorem info_set : (Tryd.prog.info? 24).map (·.size) = some 4 := by kernel_rfl
attribute [local irreducible] Calls rangesS
set_option maxHeartbeats 1000000 in
set_option maxRecDepth 100000 in
theorem ranges_law (S : Nat → Nat) (lo hi x : Nat) (hS : okS S) (hlo : lo < 256) (hhi : hi < 256) (hx : x < 256) (w : World) (hTab : TabAt 0 Lib.deBruijn64tab w) : Calls Tryd.prog 4 #[setV S, .int .u8 lo, .int .u8 hi, .int .u8 x] w fun e w' => e = .returned (.bool true) ∧ Below w.heap.size w w' := by
  have RC := ranges_c S hS
  have AW := fun (z : World) (h : Below w.heap.size w z) => awake_c z (TabAt.below hTab h)
  have OFL := of_c lo hi hlo hhi
  have OF1 := of_c lo lo hlo hlo
  have ON := one_c lo hlo
  rw [show lo + 1 - lo = 1 from by omega, of_one] at OF1
  have HH := has_c (ofS lo (hi + 1 - lo)) (of_ok _ _) x hx
  rw [show has (ofS lo (hi + 1 - lo)) x = decide (lo ≤ x ∧ x ≤ hi) from by
    by_cases h : lo ≤ hi
    · rw [has_of lo _ (by omega) x hx, Bool.eq_iff_iff]; simp; omega
    · rw [show hi + 1 - lo = 0 from by omega, show ofS lo 0 = fun _ => 0 from rfl, has_zero]; symm; rw [decide_eq_false_iff_not]; omega] at HH
  have SE := orOf_ranges S hS
  unfold setV at *
  have RC' := Lib.hid RC
  have AW' := Lib.hid AW
  have OFL' := Lib.hid OFL
  have OF1' := Lib.hid OF1
  have ON' := Lib.hid ON
  have HH' := Lib.hid HH
  have SE' := Lib.hid SE
  have HS := Lib.hid hS
  clear RC AW OFL OF1 ON HH SE hTab hS
  go_enter Tryd.func4, Tryd.ntmps4
  go_wp2_with fail
  refine (RC'.out _).mono ?_; rintro e w1 ⟨v, rfl, ho, k1⟩
  obtain ⟨ao, cap, rfl, hv⟩ := own_form ho
  have rl := rangesS_len S
  have C0 := Lib.hid (show RlAt S w.heap.size (.slice ao (rangesS S).length cap) 0 w w1 from ⟨((Blk.made w 24 (setCs S)).alloc _).below k1, by
    have := (Blk.made (w.alloc (.cells (setCs S) 24)) 24 (setCs fun _ => 0)).below k1
    rw [show (w.alloc (.cells (setCs S) 24)).heap.size = w.heap.size + 1 from by simp] at this
    exact this, own_mono ho (by simp), below_step (below_alloc (below_alloc (Below.refl _ _) _) _) k1⟩)
  have HV := Lib.hid hv
  clear ho k1 hv
  go_wp2_with fail
  go_loopw [15] (fun i wr => ∃ k : Nat, k ≤ (rangesS S).length ∧ i = .int .i64 k ∧ RlAt S w.heap.size (.slice ao (rangesS S).length cap) k w wr) (fun i _ => 256 - (intOf i).toNat)
  case atStart => exact ⟨0, by omega, rfl, C0.out⟩
  case round =>
    obtain ⟨k, hk, rfl, hst⟩ := hrel
    by_cases hlt : k < (rangesS S).length
    · obtain ⟨g, rfl, hg0, hg1⟩ := HV.out (by omega)
      have hp := own_pair hst.2.2.1 hlt
      have he := rangesS_ends S k hlt
      have OK := orOf_ok S k
      have OT := Lib.hid (orOf_take S hlt)
      generalize (rangesS S)[k] = x0 at hp he OT
      obtain ⟨p0, p1⟩ := hp
      have t1 : decide ((k : Int) < ((rangesS S).length : Nat)) = true := by simp; omega
      have OC := or_c (orOf ((rangesS S).take k)) (ofS x0.1 (x0.2 + 1 - x0.1)) OK (of_ok _ _)
      have FC := of_c x0.1 x0.2 (by omega) he.2
      unfold setV at OC FC
      have OC' := Lib.hid OC
      have FC' := Lib.hid FC
      have HST := Lib.hid hst
      clear hst hg0 hg1 OC FC OK
      go_upto_region 1 with fail
      have Z0 := HST.out.1.alloc (.cells #[.int .u8 x0.1, .int .u8 x0.2] 30)
      have Z1 := HST.out.2.1.alloc (.cells #[.int .u8 x0.1, .int .u8 x0.2] 30)
      have Z2 := Blk.made wr 30 #[.int .u8 x0.1, .int .u8 x0.2]
      have ZO := own_below HST.out.2.2.1 ((Below.refl _ _).alloc (Nat.le_refl _) (.cells #[.int .u8 x0.1, .int .u8 x0.2] 30))
      have ZW := below_alloc HST.out.2.2.2 (.cells #[.int .u8 x0.1, .int .u8 x0.2] 30)
      generalize wr.heap.size = b2 at *
      generalize wr.alloc _ = wz at *
      have c0 : ∀ x : Ext wz, x.v.cell? ⟨w.heap.size + 1, 0, none⟩ = some (.int .u64 (orOf ((rangesS S).take k) 0)) := fun x => Z1.ext x 0
      have c1 : ∀ x : Ext wz, x.v.cell? ⟨w.heap.size + 1, 1, none⟩ = some (.int .u64 (orOf ((rangesS S).take k) 1)) := fun x => Z1.ext x 1
      have c2 : ∀ x : Ext wz, x.v.cell? ⟨w.heap.size + 1, 2, none⟩ = some (.int .u64 (orOf ((rangesS S).take k) 2)) := fun x => Z1.ext x 2
      have c3 : ∀ x : Ext wz, x.v.cell? ⟨w.heap.size + 1, 3, none⟩ = some (.int .u64 (orOf ((rangesS S).take k) 3)) := fun x => Z1.ext x 3
      have d0 : ∀ x : Ext wz, x.v.cell? ⟨b2, 0, none⟩ = some (.int .u8 x0.1) := fun x => Z2.ext x 0
      have d1 : ∀ x : Ext wz, x.v.cell? ⟨b2, 1, none⟩ = some (.int .u8 x0.2) := fun x => Z2.ext x 1
      have HZ0 := Lib.hid Z0
      have HZ1 := Lib.hid Z1
      have HZO := Lib.hid ZO
      have HZW := Lib.hid ZW
      clear Z0 Z1 Z2 ZO ZW HST
      refine wp_region_ext_tail 7 (by kernel_rfl) (by kernel_rfl) ?_
      simp only [List.take_succ_cons, List.take_zero, List.drop_succ_cons, List.drop_zero]
      repeat (go_big_quiet_step (first | (go_at_call 21; exact Calls.ext_of (FC'.out _)) | (go_at_call 20; exact Calls.ext_of (OC'.out _))))
      refine wpQuiet_nil ?_
      intro _ hw'
      obtain ⟨xq, hw''⟩ := hw'
      subst hw''
      have Y0 := Lib.hid (HZ0.out.below xq.h)
      have Y1 := HZ1.out.below xq.h
      have YO := Lib.hid (own_below HZO.out xq.h)
      have YW := Lib.hid (below_step HZW.out xq.h)
      have HY1 := Lib.hid Y1
      clear Y1 HZ0 HZ1 HZO HZW c0 c1 c2 c3 d0 d1
      generalize xq.v = wy at *
      refine wpList_store_row rfl 24 _ _ rfl (w.heap.size + 1) _ rfl rfl 24 _ HY1.out info_set rfl (by simp [Value.oneCell']) ?_
      go_wp2_with fail
      go_roundw
      case rel => exact ⟨k + 1, by omega, by go_num, Y0.out.rowFar (by omega) _, (HY1.out.row _).cast (by rw [OT.out]; rfl), own_row YO.out (by have := YO.out.lt; intro e; have := this _ e; omega) _, below_row YW.out (by omega) _⟩
      case measure => simp [intOf] <;> omega
    · have ek : k = (rangesS S).length := by omega
      subst ek
      have t1 : decide (((rangesS S).length : Int) < ((rangesS S).length : Nat)) = false := by simp
      have ST := Lib.hid hst
      clear hst
      have B0 := ST.out.1
      have B1 := ST.out.2.1
      rw [List.take_length] at B1
      have ZW := Lib.hid ST.out.2.2.2
      have se := SE'.out
      injection se with se
      have B1' : Blk wr (w.heap.size + 1) 24 (setCs S) := B1.cast se
      clear B1 se
      obtain ⟨p, hp⟩ : ∃ p, p = decide (lo ≤ x ∧ x ≤ hi) := ⟨_, rfl⟩
      rw [← hp] at HH'
      have hq : (decide (lo ≤ x) = true ∧ decide (x ≤ hi) = true ∧ p = true) ∨ (decide (lo ≤ x) = true ∧ decide (x ≤ hi) = false ∧ p = false) ∨ (decide (lo ≤ x) = false ∧ True ∧ p = false) := by
        rw [hp]
        by_cases h : lo ≤ x
        · by_cases g : x ≤ hi
          · exact .inl ⟨by simp; omega, by simp; omega, by simp; omega⟩
          · exact .inr (.inl ⟨by simp; omega, by simp; omega, by rw [decide_eq_false_iff_not]; omega⟩)
        · exact .inr (.inr ⟨by simp; omega, trivial, by rw [decide_eq_false_iff_not]; omega⟩)
      clear hp
      have EQ := fun (a0 a1 a2 a3 : Int) (w : World) => set_same a0 a1 a2 a3 w
      go_wp2_with fail
      refine (AW'.out _ ZW.out).mono ?_; rintro e w4 ⟨rfl, k4⟩
      have C0 := B0.below k4
      have C1 := B1'.below k4
      have ZW4 := Lib.hid (below_step ZW.out k4)
      clear B0 B1' k4
      have c0 : w4.cell? ⟨w.heap.size, 0, none⟩ = some (.int .u64 (S 0)) := C0.cell 0
      have c1 : w4.cell? ⟨w.heap.size, 1, none⟩ = some (.int .u64 (S 1)) := C0.cell 1
      have c2 : w4.cell? ⟨w.heap.size, 2, none⟩ = some (.int .u64 (S 2)) := C0.cell 2
      have c3 : w4.cell? ⟨w.heap.size, 3, none⟩ = some (.int .u64 (S 3)) := C0.cell 3
      have d0 : w4.cell? ⟨w.heap.size + 1, 0, none⟩ = some (.int .u64 (S 0)) := C1.cell 0
      have d1 : w4.cell? ⟨w.heap.size + 1, 1, none⟩ = some (.int .u64 (S 1)) := C1.cell 1
      have d2 : w4.cell? ⟨w.heap.size + 1, 2, none⟩ = some (.int .u64 (S 2)) := C1.cell 2
      have d3 : w4.cell? ⟨w.heap.size + 1, 3, none⟩ = some (.int .u64 (S 3)) := C1.cell 3
      clear C0 C1
      rcases hq with ⟨h1, h2, rfl⟩ | ⟨h1, h2, rfl⟩ | ⟨h1, h2, rfl⟩
      all_goals
        go_wp2_with fail
        refine (OFL'.out _).mono ?_; rintro e w5 ⟨rfl, k5⟩
        have ZW5 := Lib.hid (below_step ZW4.out k5)
        clear k5 c0 c1 c2 c3 d0 d1 d2 d3
        go_wp2_with fail
        refine (HH'.out _).mono ?_; rintro e w6 ⟨rfl, k6⟩
        have ZW6 := Lib.hid (below_step ZW5.out k6)
        clear k6
        go_wp2_with fail
        refine (OF1'.out _).mono ?_; rintro e w7 ⟨rfl, k7⟩
        have ZW7 := Lib.hid (below_step ZW6.out k7)
        clear k7
        go_wp2_with fail
        refine (ON'.out _).mono ?_; rintro e w8 ⟨rfl, k8⟩
        have ZW8 := Lib.hid (below_step ZW7.out k8)
        clear k8
        go_wp2_with fail
        go_ret
        exact ⟨rfl, ZW8.out⟩
end Go.Proofs.YtgcbcmgadllhlaaDoor
