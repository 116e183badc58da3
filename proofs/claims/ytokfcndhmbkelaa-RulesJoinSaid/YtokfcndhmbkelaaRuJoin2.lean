/- The walk of the reference's Join. -/
import Derived.Test.YtokfcndhmbkelaaRuJoin
namespace Go.Proofs.Ytokfcndhmbkelaa
open Go.RowKit
theorem nlB_end (l : List UInt8) : decide (endN l 0 < l.length) = nlB l := by
  unfold endN nlB
  have := lineB_le l
  rw [List.drop_zero, Bool.eq_iff_iff]; simp; omega
set_option maxHeartbeats 4000000 in
set_option maxRecDepth 100000 in
theorem rjoin_c (L : List Ln) (hl : L.length ≤ 1000) (hm : ∀ x ∈ L, x.name.length + x.text.length ≤ 100000) (v : Value) (w : World) (hv : LinesAt w 0 v L) : Calls Try.prog 13 #[v] w fun e w' =>
    e = .returned (.tuple #[str ((joinB L).getD []), .bool (joinB L).isSome]) ∧ Below w.heap.size w w' := by
  have HV := Lib.hid hv
  have HM := Lib.hid hm
  obtain ⟨A, cap, rfl, hcap, hvc⟩ := hv
  clear hvc hm
  go_enter Try.func13, Try.ntmps13
  go_wp2_with fail
  go_loopw [4, 5] (fun v4 v5 wr => ∃ k : Nat, k ≤ L.length ∧ v5 = .int .i64 k ∧ v4 = .string ⟨(joinT (L.take k)).toArray⟩ ∧ okTo L k = true ∧ Below w.heap.size w wr) (fun _ v5 _ => L.length - (intOf v5).toNat)
  case atStart => exact ⟨0, by omega, rfl, rfl, rfl, Below.refl _ _⟩
  case round =>
    obtain ⟨k, hk, rfl, rfl, hok, hkp⟩ := hrel
    have HOK := Lib.hid hok
    have HKP := Lib.hid hkp
    clear hok hkp
    by_cases hlt : k < L.length
    · have hv2 := HV.out.below HKP.out
      have HV2 := Lib.hid hv2
      obtain ⟨A', cap', e', _, hc'⟩ := hv2
      injection e' with e1 _ e2
      subst e1
      subst e2
      obtain ⟨g, o, rfl, _, hg, hcell⟩ := hc' (by omega)
      obtain ⟨c0, c1, c2⟩ := hcell k hlt
      obtain ⟨hx1, hx2⟩ := take_getElem_mem HM.out hlt
      have t1 : decide (k < L.length) = true := by simp; omega
      have t2 : (k : Int) < (L.length : Nat) := by omega
      have t3 : (k : Int) ≤ (cap : Nat) := by omega
      have t4 : (0 : Int) ≤ (k : Int) := by omega
      have LT := Lib.hid (HV2.out.take hk)
      have hlk : (L.take k).length ≤ 1000 := by rw [List.length_take]; omega
      have JL : (joinT (L.take k)).length ≤ 1000 * (100000 + 2) := Nat.le_trans (joinT_len (m := 100000) (L.take k) (fun y hy => HM.out y (List.mem_of_mem_take hy))) (Nat.mul_le_mul_right _ hlk)
      clear hcell hc' hlk
      unfold str at c0 c1
      have OS := Lib.hid (okTo_step hlt)
      have JS := Lib.hid (joinT_step hlt)
      have NC := Lib.hid (fun w1 => rname_c L[k].name (by omega) w1)
      have TC := Lib.hid (fun w1 h => find_c (L.take k) (by rw [List.length_take]; omega) L[k].name 0 (.slice (some ⟨g, o, none⟩) k cap) w1 h)
      have CC := Lib.hid (fun w1 => end_c L[k].text (by omega) 0 (by omega) w1)
      unfold str at NC TC CC
      generalize L[k] = x at *
      have z0 : (⟨(joinT (L.take k)).toArray⟩ : ByteArray).size ≤ 1000 * (100000 + 2) := by rw [mk_size]; exact JL
      have z1 : (⟨x.name.toArray⟩ : ByteArray).size ≤ 100000 := by rw [mk_size]; exact hx1
      have z2 : (⟨x.text.toArray⟩ : ByteArray).size ≤ 100000 := by rw [mk_size]; exact hx2
      have NE := Lib.hid (show decide (endN x.text 0 < (⟨x.text.toArray⟩ : ByteArray).size) = nlB x.text by rw [mk_size]; exact nlB_end _)
      have SE := Lib.hid (show (⟨(joinT (L.take k)).toArray⟩ : ByteArray) ++ ((⟨x.name.toArray⟩ : ByteArray) ++ ⟨#[58]⟩ ++ ⟨x.text.toArray⟩ ++ ⟨#[10]⟩) = ⟨(joinT (L.take (k + 1))).toArray⟩ by
        rw [JS.out, show (⟨#[58]⟩ : ByteArray) = ⟨[58].toArray⟩ from rfl, show (⟨#[10]⟩ : ByteArray) = ⟨[10].toArray⟩ from rfl, mk_app, mk_app, mk_app, mk_app]; rfl)
      generalize (⟨x.name.toArray⟩ : ByteArray) = s1 at *
      generalize (⟨x.text.toArray⟩ : ByteArray) = s2 at *
      generalize (⟨(joinT (L.take k)).toArray⟩ : ByteArray) = s0 at *
      have d0 : ∀ y : Ext wr, y.v.cell? ⟨g, o + k * 3, none⟩ = some (.string s1) := fun y => y.cell c0
      have d1 : ∀ y : Ext wr, y.v.cell? ⟨g, o + k * 3 + 1, none⟩ = some (.string s2) := fun y => y.cell c1
      have NC' := Lib.hid (fun w1 => (NC.out w1).mono (fun e w' ⟨h1, h2⟩ => (⟨h1, h2 ▸ Below.refl _ _⟩ : _ ∧ Below w1.heap.size w1 w')))
      have TC' := Lib.hid (fun y : Ext wr => (TC.out y.v (LT.out.below y.h)).mono (fun e w' ⟨h1, h2⟩ => (⟨h1, h2 ▸ Below.refl _ _⟩ : _ ∧ Below y.v.heap.size y.v w')))
      have CC' := Lib.hid (fun w1 => (CC.out w1).mono (fun e w' ⟨h1, h2⟩ => (⟨h1, h2 ▸ Below.refl _ _⟩ : _ ∧ Below w1.heap.size w1 w')))
      have OE : okLn (L.take k) x = (nameB x.name && (!hasName (L.take k) x.name && !nlB x.text)) := rfl
      generalize okLn (L.take k) x = ok at *
      generalize nameB x.name = b1 at *
      generalize hasName (L.take k) x.name = b2 at *
      generalize nlB x.text = b3 at *
      generalize endN x.text 0 = en at *
      have OE' := Lib.hid OE
      clear OE NC TC CC c2
      go_upto_region 5 with fail
      go_cut [44] from 12 to 44 (fun c wx => c = .bool (!ok) ∧ Below wr.heap.size wr wx)
      case first =>
        refine wp_region_ext (by kernel_rfl) (by kernel_rfl) ?_
        cases b1 <;> cases b2 <;> cases b3
        all_goals
          repeat (go_big_quiet_step (first | (go_at_call 14; exact Calls.ext_of (NC'.out _)) | (go_at_call 21; exact Calls.ext_of (TC'.out _)) | (go_at_call 19; exact Calls.ext_of (CC'.out _))))
          refine wpQuiet_nil ?_
          intro _ hw'
          obtain ⟨xq, hw''⟩ := hw'
          subst hw''
          go_wp2
          go_meet
          have := OE'.out
          exact ⟨by first | (rw [this]; rfl) | (rw [this, NE.out]; rfl), xq.h⟩
      case rest =>
        obtain ⟨rfl, hbz⟩ := hcut
        have HW := Lib.hid (below_step HKP.out hbz)
        have e0 : ∀ y : Ext wc, y.v.cell? ⟨g, o + k * 3, none⟩ = some (.string s1) := fun y => y.cell (d0 ⟨wc, hbz⟩)
        have e1 : ∀ y : Ext wc, y.v.cell? ⟨g, o + k * 3 + 1, none⟩ = some (.string s2) := fun y => y.cell (d1 ⟨wc, hbz⟩)
        clear hbz d0 d1 NC' TC' CC' OE' NE HKP c0 c1
        have OS' := OS.out
        rw [HOK.out, Bool.true_and] at OS'
        cases ok with
        | false =>
          have XX := Lib.hid (show joinB L = none by unfold joinB; rw [if_neg (fun h => by rw [okTo_mono L.length (by omega : k + 1 ≤ L.length) OS'] at h; exact absurd h.1 (by simp))])
          clear OS' e0 e1
          go_wp2_with fail
          go_returns
          exact ⟨by rw [XX.out]; rfl, HW.out⟩
        | true =>
          have OS2 := Lib.hid OS'
          clear OS'
          go_upto_region 7 with fail
          refine wp_region_ext (by kernel_rfl) (by kernel_rfl) ?_
          repeat (go_big_quiet_step (fail))
          refine wpQuiet_nil ?_
          intro _ hw'
          obtain ⟨xq, hw''⟩ := hw'
          subst hw''
          have HW2 := Lib.hid (below_step HW.out xq.h)
          have SE' := SE.out
          clear e0 e1
          go_wp2_with fail
          rw [SE']
          go_roundw
          case rel => exact ⟨k + 1, by omega, by go_num, rfl, OS2.out, HW2.out⟩
          case measure => simp [intOf]; omega
    · have e : k = L.length := by omega
      subst e
      have t0 : ¬ L.length < L.length := by omega
      rw [List.take_length] at *
      have JL := joinT_len (m := 100000) L HM.out
      have JL2 : (joinT L).length ≤ 1000 * (100000 + 2) := Nat.le_trans JL (Nat.mul_le_mul_right _ hl)
      have JN := Lib.hid (fun (h : ¬ (1 ≤ L.length ∧ L.length ≤ 8 ∧ (joinT L).length ≤ 1000)) => show joinB L = none by unfold joinB; rw [if_neg (fun h2 => h h2.2)])
      have JY := Lib.hid (fun (h : 1 ≤ L.length ∧ L.length ≤ 8 ∧ (joinT L).length ≤ 1000) => show joinB L = some (joinT L) by unfold joinB; rw [if_pos ⟨HOK.out, h⟩])
      have JZ : (⟨(joinT L).toArray⟩ : ByteArray).size = (joinT L).length := mk_size _
      have YY := Lib.hid (show str (joinT L) = .string ⟨(joinT L).toArray⟩ from rfl)
      generalize (⟨(joinT L).toArray⟩ : ByteArray) = s0 at *
      clear JL
      by_cases h1 : L.length < 1
      · have XX := Lib.hid (JN.out (by omega))
        have t1 : decide ((L.length : Int) < 1) = true := by simp; omega
        clear h1
        go_wp2_with fail
        go_returns
        exact ⟨by rw [XX.out]; rfl, HKP.out⟩
      · have t1 : decide ((L.length : Int) < 1) = false := by simp; omega
        by_cases h8 : 8 < L.length
        · have XX := Lib.hid (JN.out (by omega))
          have t2 : decide ((8 : Int) < (L.length : Nat)) = true := by simp; omega
          clear h1 h8
          go_wp2_with fail
          go_returns
          exact ⟨by rw [XX.out]; rfl, HKP.out⟩
        · have t2 : decide ((8 : Int) < (L.length : Nat)) = false := by simp; omega
          by_cases hj : 1000 < (joinT L).length
          · have XX := Lib.hid (JN.out (by omega))
            have t3 : decide ((1000 : Int) < ((joinT L).length : Nat)) = true := by simp; omega
            clear h1 h8 hj
            go_wp2_with fail
            go_returns
            exact ⟨by rw [XX.out]; rfl, HKP.out⟩
          · have XX := Lib.hid (JY.out (by omega))
            have t3 : decide ((1000 : Int) < ((joinT L).length : Nat)) = false := by simp; omega
            clear h1 h8 hj
            go_wp2_with fail
            go_returns
            exact ⟨by rw [XX.out]; show _ = Ending.returned (.tuple #[str (joinT L), _]); rw [YY.out]; rfl, HKP.out⟩
/-- May lines be gone over? -/
def fewB (L : List Ln) : Bool := L.all (fun x => decide (x.name.length + x.text.length ≤ 2000)) && decide (L.length ≤ 30)
theorem few_bad {L : List Ln} {k : Nat} (h : k < L.length) (h2 : 2000 < L[k].name.length + L[k].text.length) : fewB L = false := by
  unfold fewB
  rw [show (L.all fun x => decide (x.name.length + x.text.length ≤ 2000)) = false from List.all_eq_false.2 ⟨L[k], List.getElem_mem h, by simp; omega⟩]
  rfl
theorem few_all {L : List Ln} (h : ∀ j (hj : j < L.length), L[j].name.length + L[j].text.length ≤ 2000) : fewB L = decide (L.length ≤ 30) := by
  unfold fewB
  rw [show (L.all fun x => decide (x.name.length + x.text.length ≤ 2000)) = true from List.all_eq_true.2 (fun x hx => by obtain ⟨j, hj, rfl⟩ := List.getElem_of_mem hx; simp; exact h j hj)]
  rfl
end Go.Proofs.Ytokfcndhmbkelaa
