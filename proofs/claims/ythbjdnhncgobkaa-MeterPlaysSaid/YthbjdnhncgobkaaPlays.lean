/- The walk of MeterPlays. -/
import Derived.Test.YthbjdnhncgobkaaHonest
import Derived.Test.YthbjdnhncgobkaaMeterRef
import Derived.Deep.RegionWith
import Derived.Deep.DeepCutAuto
import Derived.Deep.CutBlock
import Derived.Deep.LoopGhost
namespace Go.Proofs.Ythbjdnhncgobkaa
open Go.RowKit
theorem err_c' (m : Mt) (b : Nat) (w : World) (h : MtAt w b m) : Calls Try.prog 21 #[.pointer (some ⟨b, 0, none⟩)] w fun x w' => x = .returned (.int .i64 m.e) ∧ w' = w :=
  (err_c m b w h).mono fun _ _ k => ⟨k.1, k.2.symm⟩
set_option maxHeartbeats 4000000 in
set_option maxRecDepth 100000 in
theorem plays_pos (c s : Int) (b o len cap : Nat) (X : Nat → Nat → Int) (w : World) (hl : 0 < len) (hl0 : len ≤ 500) (hb : b < w.heap.size)
    (hA : ∀ i, i < len → ∀ j, j < 2 → w.cell? ⟨b, o + (i * 2 + j), none⟩ = some (.int .i64 (X i j)))
    (hX : ∀ i, i < len → ∀ j, j < 2 → (Lit.int .i64 (X i j)).wf = true) :
    Calls Try.prog 3 #[.int .i64 c, .int .i64 s, .slice (some ⟨b, o, none⟩) len cap] w fun e w' => e = .returned (.bool true) ∧ Below w.heap.size w w' := by
  have HA := Lib.hid hA
  have HX := Lib.hid hX
  have HB := Lib.hid hb
  clear hA hX hb
  go_enter Try.func3, Try.ntmps3
  go_wp2_with fail
  refine (awake_c _).mono ?_; rintro e w1 ⟨rfl, k1⟩
  go_wp2_with fail
  refine (new_c _ _ _).mono ?_; rintro e w2 ⟨rfl, hw2⟩
  have h2 : MtAt w2 w1.heap.size (Mt.new c s) := by rw [hw2]; exact Blk.made _ _ _
  have K1 := Lib.hid k1.size
  have K2 := Lib.hid (show Below w.heap.size w w2 by rw [hw2]; exact below_alloc k1 _)
  have H2 := Lib.hid h2
  clear hw2 k1 h2
  go_wp2_with fail
  refine (show Calls Try.prog 10 #[.int .i64 c, .int .i64 s] _ fun e w' => e = .returned (.agg #[.int .i64 0, .int .i64 0, .int .i64 (betw c 1048576), .int .i64 0, .int .i64 (betw s 1073741824), .int .i64 0]) ∧ Below _ _ w' from rnew_c c s _).mono ?_; rintro e w3 ⟨rfl, k3⟩
  have k2' : MtAt w3 w1.heap.size (Mt.new c s) := Blk.below H2.out k3
  have H3 := Lib.hid k2'
  have K3 := Lib.hid (below_step K2.out k3)
  have N := Lib.hid k2'.lt
  clear k2' k3 H2 K2
  obtain ⟨mb, hmb⟩ : ∃ mb, w1.heap.size = mb := ⟨_, rfl⟩
  rw [hmb] at H3 K1 N ⊢
  clear hmb
  go_wp2_with fail
  obtain ⟨rb, hrb⟩ : ∃ rb, w3.heap.size = rb := ⟨_, rfl⟩
  rw [hrb]
  rw [hrb] at N
  have HRB := Lib.hid hrb
  clear hrb
  go_loopg [32] len (fun gk i wr => ∃ k : Nat, k ≤ len ∧ gk = len - k ∧ i = .int .i64 k ∧ MtAt wr mb ((Mt.new c s).plays X k) ∧ RfAt wr rb ((Mt.new c s).plays X k) ∧ Only [mb, rb] w wr)
  case atStart => exact ⟨0, by omega, by omega, rfl, Blk.alloc H3.out _, by rw [← HRB.out]; exact Blk.made _ _ _, Only.ofBelow _ (below_alloc K3.out _)⟩
  case round =>
    obtain ⟨k, hk, hgk, rfl, hm, hr, ho⟩ := hrel
    have GK := Lib.hid hgk
    clear hgk
    have hok := Mt.plays_ok (Mt.new_ok c s) X k
    obtain ⟨m, S0⟩ : ∃ m, (Mt.new c s).plays X k = m := ⟨_, rfl⟩
    rw [S0] at hm hr hok
    have S1 := Lib.hid (Mt.plays_succ S0)
    clear S0
    obtain ⟨b1, b2, b3, b4, b5, b6, b7, b8⟩ := hok
    have OK := Lib.hid (show m.ok from ⟨b1, b2, b3, b4, b5, b6, b7, b8⟩)
    have HO := Lib.hid ho
    have HM := Lib.hid hm
    have HR := Lib.hid hr
    by_cases hlt : k < len
    · have hw0 := HX.out k hlt 0 (by omega)
      have hw1 := HX.out k hlt 1 (by omega)
      have hne : b ∉ [mb, rb] := by have := HB.out; have := K1.out; have := N.out; simp; omega
      have hc0 : wr.cell? ⟨b, o + k * 2, none⟩ = some (.int .i64 (X k 0)) := (ho.cell (p := ⟨b, o + k * 2, none⟩) HB.out hne).trans (HA.out k hlt 0 (by omega))
      have hc1 : wr.cell? ⟨b, o + k * 2 + 1, none⟩ = some (.int .i64 (X k 1)) := (ho.cell (p := ⟨b, o + k * 2 + 1, none⟩) HB.out hne).trans (HA.out k hlt 1 (by omega))
      obtain ⟨K, hK⟩ : ∃ K, X k 0 = K := ⟨_, rfl⟩
      obtain ⟨n, hn⟩ : ∃ n, X k 1 = n := ⟨_, rfl⟩
      rw [hK, hn] at S1
      rw [hK] at hc0 hw0
      rw [hn] at hc1 hw1
      clear hK hn ho hm hr hne
      have bn := bounds_i64 hw1
      clear hw0 hw1
      obtain ⟨n1, n2⟩ := bn
      have hmlt := HM.out.lt
      have hrlt := HR.out.lt
      go_upto_block 2 with fail
      go_cut [] (fun wx => MtAt wx mb (m.op K n) ∧ RfAt wx rb (m.op K n) ∧ Only [mb, rb] w wx)
      case first =>
        by_cases hK1 : K = 1
        · subst hK1
          go_wp2_with fail
          go_region_with (first | (go_at_call 11; refine (take_c m OK.out n mb _ (Blk.drew (Blk.alloc HM.out _))).mono ?_; rintro e w4 ⟨rfl, h4, o4⟩; have hbx : w4.cell? ⟨wr.heap.size, 1, none⟩ = some (.int .i64 n) := (o4.cell (p := ⟨wr.heap.size, 1, none⟩) (by simp) (by simp; omega)).trans (by simp)) | (go_at_call 12; refine (rtake_c m OK.out n rb _ (Blk.only (Blk.drew (Blk.alloc HR.out _)) (by assumption) (by have := N.out; simp; omega))).mono ?_; rintro e w5 ⟨rfl, h5, o5⟩))
          all_goals
            go_wp2_with fail
            go_meet
            exact ⟨Blk.only h4 o5 (by have := N.out; simp; omega), h5, ((HO.out.alloc _).drew.step o4 (by simp)).step o5 (by simp)⟩
        · have k1 : (K == 1) = false := beq_eq_false_iff_ne.mpr hK1
          by_cases hK2 : K = 2
          · subst hK2
            clear k1 hK1
            go_wp2_with fail
            go_region_with (first | (go_at_call 13; refine (give_c m OK.out n mb _ (Blk.drew (Blk.alloc HM.out _))).mono ?_; rintro e w4 ⟨rfl, h4, o4⟩; have hbx : w4.cell? ⟨wr.heap.size, 1, none⟩ = some (.int .i64 n) := (o4.cell (p := ⟨wr.heap.size, 1, none⟩) (by simp) (by simp; omega)).trans (by simp)) | (go_at_call 14; refine (rgive_c m OK.out n rb _ (Blk.only (Blk.drew (Blk.alloc HR.out _)) (by assumption) (by have := N.out; simp; omega))).mono ?_; rintro e w5 ⟨rfl, h5, o5⟩))
            all_goals
              go_wp2_with fail
              go_meet
              exact ⟨Blk.only h4 o5 (by have := N.out; simp; omega), h5, ((HO.out.alloc _).drew.step o4 (by simp)).step o5 (by simp)⟩
          · have k2 : (K == 2) = false := beq_eq_false_iff_ne.mpr hK2
            by_cases hK3 : K = 3
            · subst hK3
              clear k1 k2 hK1 hK2
              go_wp2_with fail
              go_region_with (first | (go_at_call 15; refine (step_c m OK.out n mb _ (Blk.drew (Blk.alloc HM.out _))).mono ?_; rintro e w4 ⟨rfl, h4, o4⟩; have hbx : w4.cell? ⟨wr.heap.size, 1, none⟩ = some (.int .i64 n) := (o4.cell (p := ⟨wr.heap.size, 1, none⟩) (by simp) (by simp; omega)).trans (by simp)) | (go_at_call 16; refine (rstep_c m OK.out n rb _ (Blk.only (Blk.drew (Blk.alloc HR.out _)) (by assumption) (by have := N.out; simp; omega))).mono ?_; rintro e w5 ⟨rfl, h5, o5⟩))
              all_goals
                go_wp2_with fail
                go_meet
                exact ⟨Blk.only h4 o5 (by have := N.out; simp; omega), h5, ((HO.out.alloc _).drew.step o4 (by simp)).step o5 (by simp)⟩
            · have k3 : (K == 3) = false := beq_eq_false_iff_ne.mpr hK3
              by_cases hK4 : K = 4
              · subst hK4
                clear k1 k2 k3 hK1 hK2 hK3
                go_wp2_with fail
                refine (begin_c m n mb _ (Blk.alloc HM.out _)).mono ?_; rintro e w4 ⟨rfl, h4, o4⟩
                have hbx : w4.cell? ⟨wr.heap.size, 1, none⟩ = some (.int .i64 n) := (o4.cell (p := ⟨wr.heap.size, 1, none⟩) (by simp) (by simp; omega)).trans (by simp)
                go_wp2_with fail
                refine (rbegin_c m n rb _ (Blk.only (Blk.alloc HR.out _) o4 (by have := N.out; simp; omega))).mono ?_; rintro e w5 ⟨rfl, h5, o5⟩
                go_wp2_with fail
                go_meet
                exact ⟨Blk.only h4 o5 (by have := N.out; simp; omega), h5, ((HO.out.alloc _).step o4 (by simp)).step o5 (by simp)⟩
              · have k4 : (K == 4) = false := beq_eq_false_iff_ne.mpr hK4
                have R4 := Lib.hid (show m.op K n = m by unfold Mt.op; rw [if_neg hK1, if_neg hK2, if_neg hK3, if_neg hK4])
                clear hK1 hK2 hK3 hK4
                go_wp2_with fail
                go_meet
                rw [R4.out]
                exact ⟨Blk.alloc HM.out _, Blk.alloc HR.out _, HO.out.alloc _⟩
      case rest =>
        obtain ⟨hm2, hr2, ho2⟩ := hcut
        obtain ⟨m2, hm2e⟩ : ∃ m2, m.op K n = m2 := ⟨_, rfl⟩
        rw [hm2e] at hm2 hr2 S1
        clear hm2e
        have HM2 := Lib.hid hm2
        have HR2 := Lib.hid hr2
        have HO2 := Lib.hid ho2
        clear hm2 hr2 ho2
        go_wp2_with fail
        refine (cells_c _ _ _ HM2.out).mono ?_; rintro e w' ⟨rfl, rfl⟩
        go_wp2_with fail
        refine (steps_c _ _ _ (Blk.drew HM2.out)).mono ?_; rintro e w' ⟨rfl, rfl⟩
        go_wp2_with fail
        have HMq : MtAt wc.drew.drew mb m2 := Blk.drew (Blk.drew HM2.out)
        have HRq : RfAt wc.drew.drew rb m2 := Blk.drew (Blk.drew HR2.out)
        have HOq : Only [mb, rb] w wc.drew.drew := HO2.out.drew.drew
        generalize wc.drew.drew = wq at HMq HRq HOq ⊢
        obtain ⟨r0, r1, r2, r3, r4, r5⟩ := HRq.cells
        have HMQ := Lib.hid HMq
        have HRQ := Lib.hid HRq
        have HOQ := Lib.hid HOq
        clear HMq HRq HOq HM2 HR2 HO2
        go_quiet ((go_at_call 21; exact Calls.quiet_of_same (err_c' m2 mb _ (Blk.drewN HMQ.out _))))
        go_wp2_with fail
        go_roundg (len - (k + 1))
        case rel => exact ⟨k + 1, by omega, rfl, by go_num, by rw [S1.out]; exact Blk.drewN HMQ.out _, by rw [S1.out]; exact Blk.drewN HRQ.out _, HOQ.out.drewN _⟩
        case measure => have := GK.out; omega
    · go_wp2_with fail
      go_ret
      exact ⟨rfl, HO.out.below (by have := K1.out; have := N.out; simp; omega)⟩
end Go.Proofs.Ythbjdnhncgobkaa
