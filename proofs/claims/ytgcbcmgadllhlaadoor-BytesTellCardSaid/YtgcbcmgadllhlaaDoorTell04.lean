/- The walk of BytesTell. -/
import Derived.Test.YtgcbcmgadllhlaaDoorCount04
import Derived.Test.YtgcbcmgadllhlaaDoorTail
import Derived.Deep.QuietTactic
namespace Go.Proofs.YtgcbcmgadllhlaaDoor
open Go.RowKit
theorem list_first (S : Nat → Nat) : (listS S = [] ∧ leastS S = -1) ∨ ∃ h : 0 < (listS S).length, leastS S = ((listS S)[0] : Nat) := by
  unfold listS
  rcases upto_head (has S) 256 with ⟨h1, h2⟩ | ⟨k, l, h1, h2, h3⟩
  · exact .inl ⟨h1, h2⟩
  · right
    refine ⟨by rw [h1]; simp, ?_⟩
    show firstB (has S) 256 = _
    rw [h2]; simp [h1]
theorem list_cnt (S : Nat → Nat) : (listS S).length = cntS S := upto_cnt _ _
def TlAt (S : Nat → Nat) (n0 : Nat) (v1 v2 : Value) (w wr : World) : Prop :=
  Blk wr n0 24 (setCs S) ∧ wr.ownsRow (n0 + 1) 30 2 v1 (rangesS S).length (pairs (rangesS S)) ∧ wr.ownsRow (n0 + 1) 30 2 v2 (rangesS S).length (pairs (rangesS S)) ∧ Below n0 w wr
theorem TlAt.below {S : Nat → Nat} {n0 : Nat} {v1 v2 : Value} {w wr w' : World} (h : TlAt S n0 v1 v2 w wr) (hn : n0 ≤ wr.heap.size) (k : Below wr.heap.size wr w') : TlAt S n0 v1 v2 w w' :=
  ⟨h.1.below k, own_below h.2.1 k, own_below h.2.2.1 k, h.2.2.2.trans (k.mono hn)⟩
attribute [local irreducible] Calls rangesS listS
set_option maxHeartbeats 1000000 in
set_option maxRecDepth 100000 in
theorem tell_c (S : Nat → Nat) (b : Nat) (hS : okS S) (hb : b < 256) (w : World) (hTab : TabAt 0 Lib.deBruijn64tab w) : Calls Tryd.prog 3 #[setV S, .int .u8 b] w fun e w' => e = .returned (.bool true) ∧ Below w.heap.size w w' := by
  have LI := list_c S hS
  have RC := ranges_c S hS
  have RR := rranges_c S hS
  have HC := has_c S hS b hb
  have HR := rhas_c S hS b hb
  have CC := count_c S hS
  have LC := fun (z : World) (h : Below w.heap.size w z) => least_c S hS z (TabAt.below hTab h)
  have TC := fun (z : World) (h : Below w.heap.size w z) => text_c S hS z (TabAt.below hTab h)
  have TR := rtext_c S hS
  have EC := esc_c b hb
  have ER := resc_c b hb
  have AW := fun (z : World) (h : Below w.heap.size w z) => awake_c z (TabAt.below hTab h)
  rw [← list_cnt] at CC
  have lf := list_first S
  have ll : (listS S).length ≤ 256 := by rw [list_cnt]; exact cntS_le S
  have rl := rangesS_len S
  unfold setV at *
  have LI' := Lib.hid LI
  have RC' := Lib.hid RC
  have RR' := Lib.hid RR
  have HC' := Lib.hid HC
  have HR' := Lib.hid HR
  have CC' := Lib.hid CC
  have LC' := Lib.hid LC
  have TC' := Lib.hid TC
  have TR' := Lib.hid TR
  have EC' := Lib.hid EC
  have ER' := Lib.hid ER
  have AW' := Lib.hid AW
  have LF := Lib.hid lf
  clear LI RC RR HC HR CC LC TC TR EC ER AW hTab hS lf
  go_enter Tryd.func3, Tryd.ntmps3
  go_wp2_with fail
  refine (LI'.out _).mono ?_; rintro e w1 ⟨v, rfl, ho, k1⟩
  obtain ⟨ao, cap, rfl, hv⟩ := own_form ho
  have Z1 := (Blk.made w 24 (setCs S)).below k1
  have ZW := below_step (below_alloc (Below.refl _ _) _) k1
  have hz : w.heap.size + 1 ≤ w1.heap.size := by have := k1.size; simpa using this
  clear k1
  have HO := Lib.hid ho
  have HV := Lib.hid hv
  clear ho hv
  have l0 := LI'
  have HB := Lib.hid (show w.heap.size ≤ w1.heap.size by omega)
  have HZ1 := Lib.hid Z1
  have HZW := Lib.hid ZW
  clear Z1 ZW l0
  go_upto_if 14 with fail
  go_cut [6] (fun s wx => s = .int .i64 (leastS S) ∧ wx = w1)
  case first =>
    rcases LF.out with ⟨e1, e2⟩ | ⟨h0, e2⟩
    · have t1 : ¬ (0 < (listS S).length) := by rw [e1]; simp
      have E2 := Lib.hid e2
      clear e1 e2
      go_wp2_with fail
      go_meet
      exact ⟨by rw [E2.out], rfl⟩
    · obtain ⟨g, rfl, hg0, hg1⟩ := HV.out h0
      have hi := int_at HO.out h0
      have t1 : decide (0 < (listS S).length) = true := by simp; omega
      have t2 : (0 : Int) < ((listS S).length : Nat) := by omega
      have E2 := Lib.hid e2
      clear e2 hg0 hg1
      go_wp2_with fail
      go_meet
      exact ⟨by rw [E2.out], rfl⟩
  case rest =>
    obtain ⟨rfl, rfl⟩ := hcut
    have c0 : wc.cell? ⟨w.heap.size, 0, none⟩ = some (.int .u64 (S 0)) := HZ1.out.cell 0
    have c1 : wc.cell? ⟨w.heap.size, 1, none⟩ = some (.int .u64 (S 1)) := HZ1.out.cell 1
    have c2 : wc.cell? ⟨w.heap.size, 2, none⟩ = some (.int .u64 (S 2)) := HZ1.out.cell 2
    have c3 : wc.cell? ⟨w.heap.size, 3, none⟩ = some (.int .u64 (S 3)) := HZ1.out.cell 3
    go_upto_region 5 with fail
    go_cut [7, 8] (fun v1 v2 wx => TlAt S w.heap.size v1 v2 w wx)
    case first =>
      go_region_with (first | (go_at_call 9; refine (RC'.out _).mono ?_; rintro e w3 ⟨v3, rfl, ho3, k3⟩; have C0 := HZ1.out.below (w' := w3) ⟨k3.os, k3.tape, k3.output, k3.size, k3.block⟩; have b0 : w3.cell? ⟨w.heap.size, 0, none⟩ = some (.int .u64 (S 0)) := C0.cell 0; have b1 : w3.cell? ⟨w.heap.size, 1, none⟩ = some (.int .u64 (S 1)) := C0.cell 1; have b2 : w3.cell? ⟨w.heap.size, 2, none⟩ = some (.int .u64 (S 2)) := C0.cell 2; have b3 : w3.cell? ⟨w.heap.size, 3, none⟩ = some (.int .u64 (S 3)) := C0.cell 3; have HO3 := Lib.hid ho3; have HK3 := Lib.hid k3; have HC0 := Lib.hid C0; clear ho3 k3 C0) | (go_at_call 10; refine (RR'.out _).mono ?_; rintro e w4 ⟨v4, rfl, ho4, k4⟩; have HO4 := Lib.hid ho4; have HK4 := Lib.hid k4; clear ho4 k4))
      all_goals (go_wp2_with fail; go_meet; have k4 := HK4.out; have k3 := HK3.out; exact ⟨HC0.out.below k4, own_mono (own_below HO3.out k4) (by have := HB.out; simp; omega), own_mono HO4.out (by have := k3.size; simp at this; omega), below_step (below_step HZW.out ⟨k3.os, k3.tape, k3.output, k3.size, k3.block⟩) k4⟩)
    case rest =>
      have ho1 := hcut.2.1
      have ho2 := hcut.2.2.1
      obtain ⟨a1, q1, rfl, hv1⟩ := own_form ho1
      obtain ⟨a2, q2, rfl, hv2⟩ := own_form ho2
      have HT := Lib.hid hcut
      have HV1 := Lib.hid hv1
      have HV2 := Lib.hid hv2
      have hlew := hcut.2.2.2.size
      clear hcut ho1 ho2 hv1 hv2
      go_wp2_with fail
      refine (AW'.out _ HT.out.2.2.2).mono ?_; rintro e w5 ⟨rfl, k5⟩
      have HT5 := Lib.hid (HT.out.below hlew k5)
      clear k5 HT hlew
      go_wp2_with fail
      go_loopw [9, 33] (fun _ i wr => ∃ k : Nat, k ≤ (rangesS S).length ∧ i = .int .i64 k ∧ TlAt S w.heap.size (.slice a1 (rangesS S).length q1) (.slice a2 (rangesS S).length q2) w wr) (fun _ i _ => 256 - (intOf i).toNat)
      case atStart => exact ⟨0, by omega, rfl, HT5.out⟩
      case round =>
        obtain ⟨k, hk, rfl, hst⟩ := hrel
        have hlew := hst.2.2.2.size
        by_cases hlt : k < (rangesS S).length
        · obtain ⟨g1, rfl, hg0, hg1⟩ := HV1.out (by omega)
          obtain ⟨g2, rfl, hg2, hg3⟩ := HV2.out (by omega)
          obtain ⟨p0, p1⟩ := own_pair hst.2.1 hlt
          obtain ⟨p2, p3⟩ := own_pair hst.2.2.1 hlt
          generalize (rangesS S)[k] = x0 at p0 p1 p2 p3
          have t1 : decide (k < (rangesS S).length) = true := by simp; omega
          have t2 : (k : Int) < ((rangesS S).length : Nat) := by omega
          have PE := fun (a b : Int) (w : World) => pair_same a b w
          have HST := Lib.hid hst
          clear hst hg0 hg1 hg2 hg3
          go_wp2_with fail
          go_quiet (fail)
          go_wp2_with fail
          go_roundw
          case rel => exact ⟨k + 1, by omega, by go_num, HST.out.below hlew (below_draws (Below.refl _ _) _)⟩
          case measure => simp [intOf] <;> omega
        · have ek : k = (rangesS S).length := by omega
          subst ek
          have t1 : ¬ (rangesS S).length < (rangesS S).length := by omega
          have Z1 := hst.1
          have HZ := Lib.hid hst.2.2.2
          clear hst
          go_upto_region 14 with fail
          have c0 : ∀ x : Ext wr, x.v.cell? ⟨w.heap.size, 0, none⟩ = some (.int .u64 (S 0)) := fun x => Z1.ext x 0
          have c1 : ∀ x : Ext wr, x.v.cell? ⟨w.heap.size, 1, none⟩ = some (.int .u64 (S 1)) := fun x => Z1.ext x 1
          have c2 : ∀ x : Ext wr, x.v.cell? ⟨w.heap.size, 2, none⟩ = some (.int .u64 (S 2)) := fun x => Z1.ext x 2
          have c3 : ∀ x : Ext wr, x.v.cell? ⟨w.heap.size, 3, none⟩ = some (.int .u64 (S 3)) := fun x => Z1.ext x 3
          have HZ1 := Lib.hid Z1
          clear Z1
          refine wp_region_ext (by kernel_rfl) (by kernel_rfl) ?_
          repeat (go_big_quiet_step (first | (go_at_call 12; exact Calls.ext_of (HC'.out _)) | (go_at_call 13; exact Calls.ext_of (HR'.out _)) | (go_at_call 14; exact Calls.ext_of (CC'.out _)) | (go_at_call 15; exact Calls.ext_of (LC'.out _ (below_ext HZ.out _))) | (go_at_call 16; exact Calls.ext_of (TC'.out _ (below_ext HZ.out _))) | (go_at_call 17; exact Calls.ext_of (TR'.out _)) | (go_at_call 18; exact Calls.ext_of (EC'.out _)) | (go_at_call 19; exact Calls.ext_of (ER'.out _))))
          refine wpQuiet_nil ?_
          intro _ hw'
          obtain ⟨xq, hw''⟩ := hw'
          subst hw''
          go_wp2
          go_ret
          exact ⟨rfl, below_ext HZ.out xq⟩
end Go.Proofs.YtgcbcmgadllhlaaDoor
