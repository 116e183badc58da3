/- The walk of the reference's Few. -/
import Derived.Test.YtokfcndhmbkelaaRuJoin2
namespace Go.Proofs.Ytokfcndhmbkelaa
open Go.RowKit
set_option maxHeartbeats 4000000 in
set_option maxRecDepth 100000 in
theorem few_c (L : List Ln) (hl : L.length ≤ 140737488355328) (hm : ∀ x ∈ L, x.name.length ≤ 140737488355328 ∧ x.text.length ≤ 140737488355328) (v : Value) (w : World) (hv : LinesAt w 0 v L) : Calls Try.prog 11 #[v] w fun e w' =>
    e = .returned (.bool (fewB L)) ∧ Below w.heap.size w w' := by
  have HV := Lib.hid hv
  have HM := Lib.hid hm
  obtain ⟨A, cap, rfl, hcap, hvc⟩ := hv
  clear hvc hm
  go_enter Try.func11, Try.ntmps11
  go_wp2_with fail
  go_loopw [3] (fun v3 wr => ∃ k : Nat, k ≤ L.length ∧ v3 = .int .i64 k ∧ (∀ j (hj : j < L.length), j < k → L[j].name.length + L[j].text.length ≤ 2000) ∧ Below w.heap.size w wr) (fun v3 _ => L.length - (intOf v3).toNat)
  case atStart => exact ⟨0, by omega, rfl, fun _ _ h => absurd h (by omega), Below.refl _ _⟩
  case round =>
    obtain ⟨k, hk, rfl, hok, hkp⟩ := hrel
    have HOK := Lib.hid hok
    have HKP := Lib.hid hkp
    clear hok hkp
    by_cases hlt : k < L.length
    · have hv2 := HV.out.below HKP.out
      obtain ⟨A', cap', e', _, hc'⟩ := hv2
      injection e' with e1 _ e2
      subst e1
      subst e2
      obtain ⟨g, o, rfl, _, hg, hcell⟩ := hc' (by omega)
      obtain ⟨c0, c1, c2⟩ := hcell k hlt
      obtain ⟨hx1, hx2⟩ := HM.out _ (List.getElem_mem hlt)
      have t1 : decide (k < L.length) = true := by simp; omega
      have t2 : (k : Int) < (L.length : Nat) := by omega
      have t4 : (0 : Int) ≤ (k : Int) := by omega
      have FB := Lib.hid (fun h => few_bad hlt h)
      have FG := Lib.hid (fun (h : L[k].name.length + L[k].text.length ≤ 2000) => show (∀ j (hj : j < L.length), j < k + 1 → L[j].name.length + L[j].text.length ≤ 2000) from fun j hj h2 => by
        rcases Nat.lt_or_ge j k with h3 | h3
        · exact HOK.out j hj h3
        · have e : j = k := by omega
          subst e; exact h)
      clear hcell hc'
      unfold str at c0 c1
      generalize L[k] = x at *
      have z1 : (⟨x.name.toArray⟩ : ByteArray).size = x.name.length := mk_size _
      have z2 : (⟨x.text.toArray⟩ : ByteArray).size = x.text.length := mk_size _
      generalize (⟨x.name.toArray⟩ : ByteArray) = s1 at *
      generalize (⟨x.text.toArray⟩ : ByteArray) = s2 at *
      have d0 : ∀ y : Ext wr, y.v.cell? ⟨g, o + k * 3, none⟩ = some (.string s1) := fun y => y.cell c0
      have d1 : ∀ y : Ext wr, y.v.cell? ⟨g, o + k * 3 + 1, none⟩ = some (.string s2) := fun y => y.cell c1
      clear c0 c1 c2
      by_cases hbig : 2000 < x.name.length + x.text.length
      · have XX := Lib.hid (FB.out hbig)
        have t5 : decide ((2000 : Int) < (x.name.length : Nat) + (x.text.length : Nat)) = true := by simp; omega
        clear hbig
        go_upto_region 4 with fail
        refine wp_region_ext (by kernel_rfl) (by kernel_rfl) ?_
        repeat (go_big_quiet_step (fail))
        refine wpQuiet_nil ?_
        intro _ hw'
        obtain ⟨xq, hw''⟩ := hw'
        subst hw''
        have HW2 := Lib.hid (below_step HKP.out xq.h)
        clear d0 d1
        go_wp2_with fail
        go_returns
        exact ⟨ret_bool (by rw [XX.out]), HW2.out⟩
      · have XX := Lib.hid (FG.out (by omega))
        have t5 : decide ((2000 : Int) < (x.name.length : Nat) + (x.text.length : Nat)) = false := by simp; omega
        clear hbig
        go_upto_region 4 with fail
        refine wp_region_ext (by kernel_rfl) (by kernel_rfl) ?_
        repeat (go_big_quiet_step (fail))
        refine wpQuiet_nil ?_
        intro _ hw'
        obtain ⟨xq, hw''⟩ := hw'
        subst hw''
        have HW2 := Lib.hid (below_step HKP.out xq.h)
        clear d0 d1
        go_wp2_with fail
        go_roundw
        case rel => exact ⟨k + 1, by omega, by go_num, XX.out, HW2.out⟩
        case measure => simp [intOf]; omega
    · have e : k = L.length := by omega
      subst e
      have t0 : ¬ L.length < L.length := by omega
      have XX := Lib.hid (few_all (L := L) (fun j hj => HOK.out j hj hj))
      go_wp2_with fail
      go_returns
      exact ⟨ret_bool (by rw [XX.out]; simp; omega), HKP.out⟩
end Go.Proofs.Ytokfcndhmbkelaa
