/- The walk of BytesLaws. -/
import Derived.Test.YtgcbcmgadllhlaaDoorAwake04
import Derived.Test.YtgcbcmgadllhlaaDoorExt
import Derived.Test.YtgcbcmgadllhlaaDoorSetEq
namespace Go.Proofs.YtgcbcmgadllhlaaDoor
open Go.RowKit
def orS (S T : Nat → Nat) (i : Nat) : Nat := S i ||| T i
def andS (S T : Nat → Nat) (i : Nat) : Nat := S i &&& T i
theorem has_or (S T : Nat → Nat) (b : Nat) : has (orS S T) b = (has S b || has T b) := by unfold has orS; rw [Nat.testBit_or]
theorem has_and (S T : Nat → Nat) (b : Nat) : has (andS S T) b = (has S b && has T b) := by unfold has andS; rw [Nat.testBit_and]
theorem and_ok {S T : Nat → Nat} (hS : okS S) : okS (andS S T) := fun i => Nat.lt_of_le_of_lt Nat.and_le_left (hS i)
theorem not_not {S : Nat → Nat} (hS : okS S) : notS (notS S) = S := funext fun i => by have := hS i; unfold notS; omega
theorem cnt_split (p q : Nat → Bool) : ∀ n, cntB p n + cntB q n = cntB (fun b => p b || q b) n + cntB (fun b => p b && q b) n
  | 0 => rfl
  | n + 1 => by
    have := cnt_split p q n
    unfold cntB
    cases p n <;> cases q n <;> simp <;> omega
theorem cnt_law (S T : Nat → Nat) : cntS S + cntS T = cntS (orS S T) + cntS (andS S T) := by
  unfold cntS
  rw [show has (orS S T) = fun b => has S b || has T b from funext (has_or S T), show has (andS S T) = fun b => has S b && has T b from funext (has_and S T)]
  exact cnt_split _ _ _
theorem cntS_le (S : Nat → Nat) : cntS S ≤ 256 := cntB_le _ _
theorem morgan {S T : Nat → Nat} (hS : okS S) (hT : okS T) : setV (andS (notS S) (notS T)) = setV (notS (orS S T)) := by
  have ho : okS (orS S T) := or_ok hS hT
  refine setV_eq (and_ok not_ok) not_ok (fun b _ => ?_)
  rw [has_and, has_not hS, has_not hT, has_not ho, has_or]
  cases has S b <;> cases has T b <;> rfl
attribute [local irreducible] Calls
set_option maxHeartbeats 4000000 in
set_option maxRecDepth 100000 in
theorem laws_c (S T : Nat → Nat) (b : Nat) (hS : okS S) (hT : okS T) (hb : b < 256) (w : World) (hTab : TabAt 0 Lib.deBruijn64tab w) : Calls Tryd.prog 7 #[setV S, setV T, .int .u8 b] w fun e w' => e = .returned (.bool true) ∧ Below w.heap.size w w' := by
  have ho : okS (orS S T) := or_ok hS hT
  have ha : okS (andS S T) := and_ok hS
  have HA := has_c S hS b hb
  have HB := has_c T hT b hb
  have OC : ∀ w, Calls Tryd.prog 20 #[setV S, setV T] w fun e w' => e = .returned (setV (orS S T)) ∧ Below w.heap.size w w' := or_c S T hS hT
  have AC : ∀ w, Calls Tryd.prog 23 #[setV S, setV T] w fun e w' => e = .returned (setV (andS S T)) ∧ Below w.heap.size w w' := and_c S T hS hT
  have NS : ∀ w, Calls Tryd.prog 24 #[setV S] w fun e w' => e = .returned (setV (notS S)) ∧ Below w.heap.size w w' := not_c S hS
  have NT : ∀ w, Calls Tryd.prog 24 #[setV T] w fun e w' => e = .returned (setV (notS T)) ∧ Below w.heap.size w w' := not_c T hT
  have NN : ∀ w, Calls Tryd.prog 24 #[setV (notS S)] w fun e w' => e = .returned (setV (notS (notS S))) ∧ Below w.heap.size w w' := not_c _ not_ok
  have NO : ∀ w, Calls Tryd.prog 24 #[setV (orS S T)] w fun e w' => e = .returned (setV (notS (orS S T))) ∧ Below w.heap.size w w' := not_c _ ho
  have AN : ∀ w, Calls Tryd.prog 23 #[setV (notS S), setV (notS T)] w fun e w' => e = .returned (setV (andS (notS S) (notS T))) ∧ Below w.heap.size w w' := and_c _ _ not_ok not_ok
  have HO := has_c (orS S T) ho b hb
  have HN := has_c (notS S) not_ok b hb
  have HD := has_c (andS S T) ha b hb
  have CS := count_c S hS
  have CT := count_c T hT
  have CO := count_c (orS S T) ho
  have CA := count_c (andS S T) ha
  have l1 := cntS_le S
  have l2 := cntS_le T
  have l3 := cntS_le (orS S T)
  have l4 := cntS_le (andS S T)
  have E : ((cntS S : Int) + (cntS T : Int) == (cntS (orS S T) : Int) + (cntS (andS S T) : Int)) = true := by have := cnt_law S T; simp; omega
  rw [not_not hS] at NN
  rw [morgan hS hT] at AN
  rw [has_or] at HO
  rw [has_and] at HD
  rw [has_not hS] at HN
  have AW := fun (x : World) (h : Below w.heap.size w x) => awake_c x (TabAt.below hTab h)
  clear hTab ho ha hS hT l1 l2 l3 l4
  have l1 := cntS_le S
  have l2 := cntS_le T
  have l3 := cntS_le (orS S T)
  have l4 := cntS_le (andS S T)
  unfold setV at *
  generalize cntS S = n1 at *
  generalize cntS T = n2 at *
  generalize cntS (orS S T) = n3 at *
  generalize cntS (andS S T) = n4 at *
  generalize notS (orS S T) = X1 at *
  generalize orS S T = X2 at *
  generalize andS S T = X3 at *
  generalize notS S = X4 at *
  generalize notS T = X5 at *
  have Z1 := Blk.alloc (Blk.made w 24 #[.int .u64 (S 0), .int .u64 (S 1), .int .u64 (S 2), .int .u64 (S 3)]) (.cells #[.int .u64 (T 0), .int .u64 (T 1), .int .u64 (T 2), .int .u64 (T 3)] 24)
  have Z2 := Blk.made (w.alloc (.cells #[.int .u64 (S 0), .int .u64 (S 1), .int .u64 (S 2), .int .u64 (S 3)] 24)) 24 #[.int .u64 (T 0), .int .u64 (T 1), .int .u64 (T 2), .int .u64 (T 3)]
  rw [show (w.alloc (.cells #[.int .u64 (S 0), .int .u64 (S 1), .int .u64 (S 2), .int .u64 (S 3)] 24)).heap.size = w.heap.size + 1 from by simp] at Z2
  have ZW := below_alloc (below_alloc (Below.refl w.heap.size w) (.cells #[.int .u64 (S 0), .int .u64 (S 1), .int .u64 (S 2), .int .u64 (S 3)] 24)) (.cells #[.int .u64 (T 0), .int .u64 (T 1), .int .u64 (T 2), .int .u64 (T 3)] 24)
  rcases p : has S b <;> rcases q : has T b
  · rw [p] at HA HO HD HN
    rw [q] at HB HO HD
    clear p q
    have HA' := Lib.hid HA
    have HB' := Lib.hid HB
    have OC' := Lib.hid OC
    have AC' := Lib.hid AC
    have NS' := Lib.hid NS
    have NT' := Lib.hid NT
    have NN' := Lib.hid NN
    have NO' := Lib.hid NO
    have AN' := Lib.hid AN
    have HO' := Lib.hid HO
    have HN' := Lib.hid HN
    have HD' := Lib.hid HD
    have CS' := Lib.hid CS
    have CT' := Lib.hid CT
    have CO' := Lib.hid CO
    have CA' := Lib.hid CA
    have AW' := Lib.hid AW
    clear HA HB OC AC NS NT NN NO AN HO HN HD CS CT CO CA AW
    go_enter Tryd.func7, Tryd.ntmps7
    go_upto_region 1 with fail
    generalize (w.alloc _).alloc _ = wz at Z1 Z2 ZW
    have c0 : ∀ x : Ext wz, x.v.cell? ⟨w.heap.size, 0, none⟩ = some (.int .u64 (S 0)) := fun x => Z1.ext x 0
    have c1 : ∀ x : Ext wz, x.v.cell? ⟨w.heap.size, 1, none⟩ = some (.int .u64 (S 1)) := fun x => Z1.ext x 1
    have c2 : ∀ x : Ext wz, x.v.cell? ⟨w.heap.size, 2, none⟩ = some (.int .u64 (S 2)) := fun x => Z1.ext x 2
    have c3 : ∀ x : Ext wz, x.v.cell? ⟨w.heap.size, 3, none⟩ = some (.int .u64 (S 3)) := fun x => Z1.ext x 3
    have d0 : ∀ x : Ext wz, x.v.cell? ⟨w.heap.size + 1, 0, none⟩ = some (.int .u64 (T 0)) := fun x => Z2.ext x 0
    have d1 : ∀ x : Ext wz, x.v.cell? ⟨w.heap.size + 1, 1, none⟩ = some (.int .u64 (T 1)) := fun x => Z2.ext x 1
    have d2 : ∀ x : Ext wz, x.v.cell? ⟨w.heap.size + 1, 2, none⟩ = some (.int .u64 (T 2)) := fun x => Z2.ext x 2
    have d3 : ∀ x : Ext wz, x.v.cell? ⟨w.heap.size + 1, 3, none⟩ = some (.int .u64 (T 3)) := fun x => Z2.ext x 3
    have HZ := Lib.hid ZW
    have HZ1 := Lib.hid Z1
    have HZ2 := Lib.hid Z2
    clear Z1 Z2 ZW
    refine wp_region_ext (by kernel_rfl) (by kernel_rfl) ?_
    repeat (go_big_quiet_step (first | (go_at_call 12; first | exact Calls.ext_of (HA'.out _) | exact Calls.ext_of (HB'.out _) | exact Calls.ext_of (HO'.out _) | exact Calls.ext_of (HN'.out _) | exact Calls.ext_of (HD'.out _)) | (go_at_call 20; first | exact Calls.ext_of (OC'.out _)) | (go_at_call 23; first | exact Calls.ext_of (AC'.out _) | exact Calls.ext_of (AN'.out _)) | (go_at_call 24; first | exact Calls.ext_of (NS'.out _) | exact Calls.ext_of (NT'.out _) | exact Calls.ext_of (NN'.out _) | exact Calls.ext_of (NO'.out _)) | (go_at_call 14; first | exact Calls.ext_of (CS'.out _) | exact Calls.ext_of (CT'.out _) | exact Calls.ext_of (CO'.out _) | exact Calls.ext_of (CA'.out _)) | exact Calls.ext_of (AW'.out _ (below_ext HZ.out _))))
    refine wpQuiet_nil ?_
    intro _ hw'
    obtain ⟨xq, hw''⟩ := hw'
    subst hw''
    go_upto_region 2 with fail
    simp only [List.append_eq, List.cons_append, List.nil_append]
    have Z1 := HZ1.out.below xq.h
    have Z2 := HZ2.out.below xq.h
    have ZW := below_step HZ.out xq.h
    generalize xq.v = wy at Z1 Z2 ZW
    clear c0 c1 c2 c3 d0 d1 d2 d3 HZ HZ1 HZ2
    have EQ := fun (a0 a1 a2 a3 : Int) (w : World) => set_same a0 a1 a2 a3 w
    have c0 : ∀ x : Ext wy, x.v.cell? ⟨w.heap.size, 0, none⟩ = some (.int .u64 (S 0)) := fun x => Z1.ext x 0
    have c1 : ∀ x : Ext wy, x.v.cell? ⟨w.heap.size, 1, none⟩ = some (.int .u64 (S 1)) := fun x => Z1.ext x 1
    have c2 : ∀ x : Ext wy, x.v.cell? ⟨w.heap.size, 2, none⟩ = some (.int .u64 (S 2)) := fun x => Z1.ext x 2
    have c3 : ∀ x : Ext wy, x.v.cell? ⟨w.heap.size, 3, none⟩ = some (.int .u64 (S 3)) := fun x => Z1.ext x 3
    have d0 : ∀ x : Ext wy, x.v.cell? ⟨w.heap.size + 1, 0, none⟩ = some (.int .u64 (T 0)) := fun x => Z2.ext x 0
    have d1 : ∀ x : Ext wy, x.v.cell? ⟨w.heap.size + 1, 1, none⟩ = some (.int .u64 (T 1)) := fun x => Z2.ext x 1
    have d2 : ∀ x : Ext wy, x.v.cell? ⟨w.heap.size + 1, 2, none⟩ = some (.int .u64 (T 2)) := fun x => Z2.ext x 2
    have d3 : ∀ x : Ext wy, x.v.cell? ⟨w.heap.size + 1, 3, none⟩ = some (.int .u64 (T 3)) := fun x => Z2.ext x 3
    have HZ := Lib.hid ZW
    have HZ1 := Lib.hid Z1
    have HZ2 := Lib.hid Z2
    clear Z1 Z2 ZW
    refine wp_region_ext (by kernel_rfl) (by kernel_rfl) ?_
    repeat (go_big_quiet_step (first | (go_at_call 12; first | exact Calls.ext_of (HA'.out _) | exact Calls.ext_of (HB'.out _) | exact Calls.ext_of (HO'.out _) | exact Calls.ext_of (HN'.out _) | exact Calls.ext_of (HD'.out _)) | (go_at_call 20; first | exact Calls.ext_of (OC'.out _)) | (go_at_call 23; first | exact Calls.ext_of (AC'.out _) | exact Calls.ext_of (AN'.out _)) | (go_at_call 24; first | exact Calls.ext_of (NS'.out _) | exact Calls.ext_of (NT'.out _) | exact Calls.ext_of (NN'.out _) | exact Calls.ext_of (NO'.out _)) | (go_at_call 14; first | exact Calls.ext_of (CS'.out _) | exact Calls.ext_of (CT'.out _) | exact Calls.ext_of (CO'.out _) | exact Calls.ext_of (CA'.out _)) | exact Calls.ext_of (AW'.out _ (below_ext HZ.out _))))
    refine wpQuiet_nil ?_
    intro _ hw'
    obtain ⟨xr, hw''⟩ := hw'
    subst hw''
    go_wp2
    go_ret
    exact ⟨rfl, below_ext HZ.out xr⟩
  · rw [p] at HA HO HD HN
    rw [q] at HB HO HD
    clear p q
    have HA' := Lib.hid HA
    have HB' := Lib.hid HB
    have OC' := Lib.hid OC
    have AC' := Lib.hid AC
    have NS' := Lib.hid NS
    have NT' := Lib.hid NT
    have NN' := Lib.hid NN
    have NO' := Lib.hid NO
    have AN' := Lib.hid AN
    have HO' := Lib.hid HO
    have HN' := Lib.hid HN
    have HD' := Lib.hid HD
    have CS' := Lib.hid CS
    have CT' := Lib.hid CT
    have CO' := Lib.hid CO
    have CA' := Lib.hid CA
    have AW' := Lib.hid AW
    clear HA HB OC AC NS NT NN NO AN HO HN HD CS CT CO CA AW
    go_enter Tryd.func7, Tryd.ntmps7
    go_upto_region 1 with fail
    generalize (w.alloc _).alloc _ = wz at Z1 Z2 ZW
    have c0 : ∀ x : Ext wz, x.v.cell? ⟨w.heap.size, 0, none⟩ = some (.int .u64 (S 0)) := fun x => Z1.ext x 0
    have c1 : ∀ x : Ext wz, x.v.cell? ⟨w.heap.size, 1, none⟩ = some (.int .u64 (S 1)) := fun x => Z1.ext x 1
    have c2 : ∀ x : Ext wz, x.v.cell? ⟨w.heap.size, 2, none⟩ = some (.int .u64 (S 2)) := fun x => Z1.ext x 2
    have c3 : ∀ x : Ext wz, x.v.cell? ⟨w.heap.size, 3, none⟩ = some (.int .u64 (S 3)) := fun x => Z1.ext x 3
    have d0 : ∀ x : Ext wz, x.v.cell? ⟨w.heap.size + 1, 0, none⟩ = some (.int .u64 (T 0)) := fun x => Z2.ext x 0
    have d1 : ∀ x : Ext wz, x.v.cell? ⟨w.heap.size + 1, 1, none⟩ = some (.int .u64 (T 1)) := fun x => Z2.ext x 1
    have d2 : ∀ x : Ext wz, x.v.cell? ⟨w.heap.size + 1, 2, none⟩ = some (.int .u64 (T 2)) := fun x => Z2.ext x 2
    have d3 : ∀ x : Ext wz, x.v.cell? ⟨w.heap.size + 1, 3, none⟩ = some (.int .u64 (T 3)) := fun x => Z2.ext x 3
    have HZ := Lib.hid ZW
    have HZ1 := Lib.hid Z1
    have HZ2 := Lib.hid Z2
    clear Z1 Z2 ZW
    refine wp_region_ext (by kernel_rfl) (by kernel_rfl) ?_
    repeat (go_big_quiet_step (first | (go_at_call 12; first | exact Calls.ext_of (HA'.out _) | exact Calls.ext_of (HB'.out _) | exact Calls.ext_of (HO'.out _) | exact Calls.ext_of (HN'.out _) | exact Calls.ext_of (HD'.out _)) | (go_at_call 20; first | exact Calls.ext_of (OC'.out _)) | (go_at_call 23; first | exact Calls.ext_of (AC'.out _) | exact Calls.ext_of (AN'.out _)) | (go_at_call 24; first | exact Calls.ext_of (NS'.out _) | exact Calls.ext_of (NT'.out _) | exact Calls.ext_of (NN'.out _) | exact Calls.ext_of (NO'.out _)) | (go_at_call 14; first | exact Calls.ext_of (CS'.out _) | exact Calls.ext_of (CT'.out _) | exact Calls.ext_of (CO'.out _) | exact Calls.ext_of (CA'.out _)) | exact Calls.ext_of (AW'.out _ (below_ext HZ.out _))))
    refine wpQuiet_nil ?_
    intro _ hw'
    obtain ⟨xq, hw''⟩ := hw'
    subst hw''
    go_upto_region 2 with fail
    simp only [List.append_eq, List.cons_append, List.nil_append]
    have Z1 := HZ1.out.below xq.h
    have Z2 := HZ2.out.below xq.h
    have ZW := below_step HZ.out xq.h
    generalize xq.v = wy at Z1 Z2 ZW
    clear c0 c1 c2 c3 d0 d1 d2 d3 HZ HZ1 HZ2
    have EQ := fun (a0 a1 a2 a3 : Int) (w : World) => set_same a0 a1 a2 a3 w
    have c0 : ∀ x : Ext wy, x.v.cell? ⟨w.heap.size, 0, none⟩ = some (.int .u64 (S 0)) := fun x => Z1.ext x 0
    have c1 : ∀ x : Ext wy, x.v.cell? ⟨w.heap.size, 1, none⟩ = some (.int .u64 (S 1)) := fun x => Z1.ext x 1
    have c2 : ∀ x : Ext wy, x.v.cell? ⟨w.heap.size, 2, none⟩ = some (.int .u64 (S 2)) := fun x => Z1.ext x 2
    have c3 : ∀ x : Ext wy, x.v.cell? ⟨w.heap.size, 3, none⟩ = some (.int .u64 (S 3)) := fun x => Z1.ext x 3
    have d0 : ∀ x : Ext wy, x.v.cell? ⟨w.heap.size + 1, 0, none⟩ = some (.int .u64 (T 0)) := fun x => Z2.ext x 0
    have d1 : ∀ x : Ext wy, x.v.cell? ⟨w.heap.size + 1, 1, none⟩ = some (.int .u64 (T 1)) := fun x => Z2.ext x 1
    have d2 : ∀ x : Ext wy, x.v.cell? ⟨w.heap.size + 1, 2, none⟩ = some (.int .u64 (T 2)) := fun x => Z2.ext x 2
    have d3 : ∀ x : Ext wy, x.v.cell? ⟨w.heap.size + 1, 3, none⟩ = some (.int .u64 (T 3)) := fun x => Z2.ext x 3
    have HZ := Lib.hid ZW
    have HZ1 := Lib.hid Z1
    have HZ2 := Lib.hid Z2
    clear Z1 Z2 ZW
    refine wp_region_ext (by kernel_rfl) (by kernel_rfl) ?_
    repeat (go_big_quiet_step (first | (go_at_call 12; first | exact Calls.ext_of (HA'.out _) | exact Calls.ext_of (HB'.out _) | exact Calls.ext_of (HO'.out _) | exact Calls.ext_of (HN'.out _) | exact Calls.ext_of (HD'.out _)) | (go_at_call 20; first | exact Calls.ext_of (OC'.out _)) | (go_at_call 23; first | exact Calls.ext_of (AC'.out _) | exact Calls.ext_of (AN'.out _)) | (go_at_call 24; first | exact Calls.ext_of (NS'.out _) | exact Calls.ext_of (NT'.out _) | exact Calls.ext_of (NN'.out _) | exact Calls.ext_of (NO'.out _)) | (go_at_call 14; first | exact Calls.ext_of (CS'.out _) | exact Calls.ext_of (CT'.out _) | exact Calls.ext_of (CO'.out _) | exact Calls.ext_of (CA'.out _)) | exact Calls.ext_of (AW'.out _ (below_ext HZ.out _))))
    refine wpQuiet_nil ?_
    intro _ hw'
    obtain ⟨xr, hw''⟩ := hw'
    subst hw''
    go_wp2
    go_ret
    exact ⟨rfl, below_ext HZ.out xr⟩
  · rw [p] at HA HO HD HN
    rw [q] at HB HO HD
    clear p q
    have HA' := Lib.hid HA
    have HB' := Lib.hid HB
    have OC' := Lib.hid OC
    have AC' := Lib.hid AC
    have NS' := Lib.hid NS
    have NT' := Lib.hid NT
    have NN' := Lib.hid NN
    have NO' := Lib.hid NO
    have AN' := Lib.hid AN
    have HO' := Lib.hid HO
    have HN' := Lib.hid HN
    have HD' := Lib.hid HD
    have CS' := Lib.hid CS
    have CT' := Lib.hid CT
    have CO' := Lib.hid CO
    have CA' := Lib.hid CA
    have AW' := Lib.hid AW
    clear HA HB OC AC NS NT NN NO AN HO HN HD CS CT CO CA AW
    go_enter Tryd.func7, Tryd.ntmps7
    go_upto_region 1 with fail
    generalize (w.alloc _).alloc _ = wz at Z1 Z2 ZW
    have c0 : ∀ x : Ext wz, x.v.cell? ⟨w.heap.size, 0, none⟩ = some (.int .u64 (S 0)) := fun x => Z1.ext x 0
    have c1 : ∀ x : Ext wz, x.v.cell? ⟨w.heap.size, 1, none⟩ = some (.int .u64 (S 1)) := fun x => Z1.ext x 1
    have c2 : ∀ x : Ext wz, x.v.cell? ⟨w.heap.size, 2, none⟩ = some (.int .u64 (S 2)) := fun x => Z1.ext x 2
    have c3 : ∀ x : Ext wz, x.v.cell? ⟨w.heap.size, 3, none⟩ = some (.int .u64 (S 3)) := fun x => Z1.ext x 3
    have d0 : ∀ x : Ext wz, x.v.cell? ⟨w.heap.size + 1, 0, none⟩ = some (.int .u64 (T 0)) := fun x => Z2.ext x 0
    have d1 : ∀ x : Ext wz, x.v.cell? ⟨w.heap.size + 1, 1, none⟩ = some (.int .u64 (T 1)) := fun x => Z2.ext x 1
    have d2 : ∀ x : Ext wz, x.v.cell? ⟨w.heap.size + 1, 2, none⟩ = some (.int .u64 (T 2)) := fun x => Z2.ext x 2
    have d3 : ∀ x : Ext wz, x.v.cell? ⟨w.heap.size + 1, 3, none⟩ = some (.int .u64 (T 3)) := fun x => Z2.ext x 3
    have HZ := Lib.hid ZW
    have HZ1 := Lib.hid Z1
    have HZ2 := Lib.hid Z2
    clear Z1 Z2 ZW
    refine wp_region_ext (by kernel_rfl) (by kernel_rfl) ?_
    repeat (go_big_quiet_step (first | (go_at_call 12; first | exact Calls.ext_of (HA'.out _) | exact Calls.ext_of (HB'.out _) | exact Calls.ext_of (HO'.out _) | exact Calls.ext_of (HN'.out _) | exact Calls.ext_of (HD'.out _)) | (go_at_call 20; first | exact Calls.ext_of (OC'.out _)) | (go_at_call 23; first | exact Calls.ext_of (AC'.out _) | exact Calls.ext_of (AN'.out _)) | (go_at_call 24; first | exact Calls.ext_of (NS'.out _) | exact Calls.ext_of (NT'.out _) | exact Calls.ext_of (NN'.out _) | exact Calls.ext_of (NO'.out _)) | (go_at_call 14; first | exact Calls.ext_of (CS'.out _) | exact Calls.ext_of (CT'.out _) | exact Calls.ext_of (CO'.out _) | exact Calls.ext_of (CA'.out _)) | exact Calls.ext_of (AW'.out _ (below_ext HZ.out _))))
    refine wpQuiet_nil ?_
    intro _ hw'
    obtain ⟨xq, hw''⟩ := hw'
    subst hw''
    go_upto_region 2 with fail
    simp only [List.append_eq, List.cons_append, List.nil_append]
    have Z1 := HZ1.out.below xq.h
    have Z2 := HZ2.out.below xq.h
    have ZW := below_step HZ.out xq.h
    generalize xq.v = wy at Z1 Z2 ZW
    clear c0 c1 c2 c3 d0 d1 d2 d3 HZ HZ1 HZ2
    have EQ := fun (a0 a1 a2 a3 : Int) (w : World) => set_same a0 a1 a2 a3 w
    have c0 : ∀ x : Ext wy, x.v.cell? ⟨w.heap.size, 0, none⟩ = some (.int .u64 (S 0)) := fun x => Z1.ext x 0
    have c1 : ∀ x : Ext wy, x.v.cell? ⟨w.heap.size, 1, none⟩ = some (.int .u64 (S 1)) := fun x => Z1.ext x 1
    have c2 : ∀ x : Ext wy, x.v.cell? ⟨w.heap.size, 2, none⟩ = some (.int .u64 (S 2)) := fun x => Z1.ext x 2
    have c3 : ∀ x : Ext wy, x.v.cell? ⟨w.heap.size, 3, none⟩ = some (.int .u64 (S 3)) := fun x => Z1.ext x 3
    have d0 : ∀ x : Ext wy, x.v.cell? ⟨w.heap.size + 1, 0, none⟩ = some (.int .u64 (T 0)) := fun x => Z2.ext x 0
    have d1 : ∀ x : Ext wy, x.v.cell? ⟨w.heap.size + 1, 1, none⟩ = some (.int .u64 (T 1)) := fun x => Z2.ext x 1
    have d2 : ∀ x : Ext wy, x.v.cell? ⟨w.heap.size + 1, 2, none⟩ = some (.int .u64 (T 2)) := fun x => Z2.ext x 2
    have d3 : ∀ x : Ext wy, x.v.cell? ⟨w.heap.size + 1, 3, none⟩ = some (.int .u64 (T 3)) := fun x => Z2.ext x 3
    have HZ := Lib.hid ZW
    have HZ1 := Lib.hid Z1
    have HZ2 := Lib.hid Z2
    clear Z1 Z2 ZW
    refine wp_region_ext (by kernel_rfl) (by kernel_rfl) ?_
    repeat (go_big_quiet_step (first | (go_at_call 12; first | exact Calls.ext_of (HA'.out _) | exact Calls.ext_of (HB'.out _) | exact Calls.ext_of (HO'.out _) | exact Calls.ext_of (HN'.out _) | exact Calls.ext_of (HD'.out _)) | (go_at_call 20; first | exact Calls.ext_of (OC'.out _)) | (go_at_call 23; first | exact Calls.ext_of (AC'.out _) | exact Calls.ext_of (AN'.out _)) | (go_at_call 24; first | exact Calls.ext_of (NS'.out _) | exact Calls.ext_of (NT'.out _) | exact Calls.ext_of (NN'.out _) | exact Calls.ext_of (NO'.out _)) | (go_at_call 14; first | exact Calls.ext_of (CS'.out _) | exact Calls.ext_of (CT'.out _) | exact Calls.ext_of (CO'.out _) | exact Calls.ext_of (CA'.out _)) | exact Calls.ext_of (AW'.out _ (below_ext HZ.out _))))
    refine wpQuiet_nil ?_
    intro _ hw'
    obtain ⟨xr, hw''⟩ := hw'
    subst hw''
    go_wp2
    go_ret
    exact ⟨rfl, below_ext HZ.out xr⟩
  · rw [p] at HA HO HD HN
    rw [q] at HB HO HD
    clear p q
    have HA' := Lib.hid HA
    have HB' := Lib.hid HB
    have OC' := Lib.hid OC
    have AC' := Lib.hid AC
    have NS' := Lib.hid NS
    have NT' := Lib.hid NT
    have NN' := Lib.hid NN
    have NO' := Lib.hid NO
    have AN' := Lib.hid AN
    have HO' := Lib.hid HO
    have HN' := Lib.hid HN
    have HD' := Lib.hid HD
    have CS' := Lib.hid CS
    have CT' := Lib.hid CT
    have CO' := Lib.hid CO
    have CA' := Lib.hid CA
    have AW' := Lib.hid AW
    clear HA HB OC AC NS NT NN NO AN HO HN HD CS CT CO CA AW
    go_enter Tryd.func7, Tryd.ntmps7
    go_upto_region 1 with fail
    generalize (w.alloc _).alloc _ = wz at Z1 Z2 ZW
    have c0 : ∀ x : Ext wz, x.v.cell? ⟨w.heap.size, 0, none⟩ = some (.int .u64 (S 0)) := fun x => Z1.ext x 0
    have c1 : ∀ x : Ext wz, x.v.cell? ⟨w.heap.size, 1, none⟩ = some (.int .u64 (S 1)) := fun x => Z1.ext x 1
    have c2 : ∀ x : Ext wz, x.v.cell? ⟨w.heap.size, 2, none⟩ = some (.int .u64 (S 2)) := fun x => Z1.ext x 2
    have c3 : ∀ x : Ext wz, x.v.cell? ⟨w.heap.size, 3, none⟩ = some (.int .u64 (S 3)) := fun x => Z1.ext x 3
    have d0 : ∀ x : Ext wz, x.v.cell? ⟨w.heap.size + 1, 0, none⟩ = some (.int .u64 (T 0)) := fun x => Z2.ext x 0
    have d1 : ∀ x : Ext wz, x.v.cell? ⟨w.heap.size + 1, 1, none⟩ = some (.int .u64 (T 1)) := fun x => Z2.ext x 1
    have d2 : ∀ x : Ext wz, x.v.cell? ⟨w.heap.size + 1, 2, none⟩ = some (.int .u64 (T 2)) := fun x => Z2.ext x 2
    have d3 : ∀ x : Ext wz, x.v.cell? ⟨w.heap.size + 1, 3, none⟩ = some (.int .u64 (T 3)) := fun x => Z2.ext x 3
    have HZ := Lib.hid ZW
    have HZ1 := Lib.hid Z1
    have HZ2 := Lib.hid Z2
    clear Z1 Z2 ZW
    refine wp_region_ext (by kernel_rfl) (by kernel_rfl) ?_
    repeat (go_big_quiet_step (first | (go_at_call 12; first | exact Calls.ext_of (HA'.out _) | exact Calls.ext_of (HB'.out _) | exact Calls.ext_of (HO'.out _) | exact Calls.ext_of (HN'.out _) | exact Calls.ext_of (HD'.out _)) | (go_at_call 20; first | exact Calls.ext_of (OC'.out _)) | (go_at_call 23; first | exact Calls.ext_of (AC'.out _) | exact Calls.ext_of (AN'.out _)) | (go_at_call 24; first | exact Calls.ext_of (NS'.out _) | exact Calls.ext_of (NT'.out _) | exact Calls.ext_of (NN'.out _) | exact Calls.ext_of (NO'.out _)) | (go_at_call 14; first | exact Calls.ext_of (CS'.out _) | exact Calls.ext_of (CT'.out _) | exact Calls.ext_of (CO'.out _) | exact Calls.ext_of (CA'.out _)) | exact Calls.ext_of (AW'.out _ (below_ext HZ.out _))))
    refine wpQuiet_nil ?_
    intro _ hw'
    obtain ⟨xq, hw''⟩ := hw'
    subst hw''
    go_upto_region 2 with fail
    simp only [List.append_eq, List.cons_append, List.nil_append]
    have Z1 := HZ1.out.below xq.h
    have Z2 := HZ2.out.below xq.h
    have ZW := below_step HZ.out xq.h
    generalize xq.v = wy at Z1 Z2 ZW
    clear c0 c1 c2 c3 d0 d1 d2 d3 HZ HZ1 HZ2
    have EQ := fun (a0 a1 a2 a3 : Int) (w : World) => set_same a0 a1 a2 a3 w
    have c0 : ∀ x : Ext wy, x.v.cell? ⟨w.heap.size, 0, none⟩ = some (.int .u64 (S 0)) := fun x => Z1.ext x 0
    have c1 : ∀ x : Ext wy, x.v.cell? ⟨w.heap.size, 1, none⟩ = some (.int .u64 (S 1)) := fun x => Z1.ext x 1
    have c2 : ∀ x : Ext wy, x.v.cell? ⟨w.heap.size, 2, none⟩ = some (.int .u64 (S 2)) := fun x => Z1.ext x 2
    have c3 : ∀ x : Ext wy, x.v.cell? ⟨w.heap.size, 3, none⟩ = some (.int .u64 (S 3)) := fun x => Z1.ext x 3
    have d0 : ∀ x : Ext wy, x.v.cell? ⟨w.heap.size + 1, 0, none⟩ = some (.int .u64 (T 0)) := fun x => Z2.ext x 0
    have d1 : ∀ x : Ext wy, x.v.cell? ⟨w.heap.size + 1, 1, none⟩ = some (.int .u64 (T 1)) := fun x => Z2.ext x 1
    have d2 : ∀ x : Ext wy, x.v.cell? ⟨w.heap.size + 1, 2, none⟩ = some (.int .u64 (T 2)) := fun x => Z2.ext x 2
    have d3 : ∀ x : Ext wy, x.v.cell? ⟨w.heap.size + 1, 3, none⟩ = some (.int .u64 (T 3)) := fun x => Z2.ext x 3
    have HZ := Lib.hid ZW
    have HZ1 := Lib.hid Z1
    have HZ2 := Lib.hid Z2
    clear Z1 Z2 ZW
    refine wp_region_ext (by kernel_rfl) (by kernel_rfl) ?_
    repeat (go_big_quiet_step (first | (go_at_call 12; first | exact Calls.ext_of (HA'.out _) | exact Calls.ext_of (HB'.out _) | exact Calls.ext_of (HO'.out _) | exact Calls.ext_of (HN'.out _) | exact Calls.ext_of (HD'.out _)) | (go_at_call 20; first | exact Calls.ext_of (OC'.out _)) | (go_at_call 23; first | exact Calls.ext_of (AC'.out _) | exact Calls.ext_of (AN'.out _)) | (go_at_call 24; first | exact Calls.ext_of (NS'.out _) | exact Calls.ext_of (NT'.out _) | exact Calls.ext_of (NN'.out _) | exact Calls.ext_of (NO'.out _)) | (go_at_call 14; first | exact Calls.ext_of (CS'.out _) | exact Calls.ext_of (CT'.out _) | exact Calls.ext_of (CO'.out _) | exact Calls.ext_of (CA'.out _)) | exact Calls.ext_of (AW'.out _ (below_ext HZ.out _))))
    refine wpQuiet_nil ?_
    intro _ hw'
    obtain ⟨xr, hw''⟩ := hw'
    subst hw''
    go_wp2
    go_ret
    exact ⟨rfl, below_ext HZ.out xr⟩
end Go.Proofs.YtgcbcmgadllhlaaDoor
