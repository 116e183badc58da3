/- The reference's alike. -/
import Derived.Test.YtonicgbejmghkaaDoorPtCut
namespace Go.Proofs.YtonicgbejmghkaaDoor
open Go.RowKit
theorem same_take {l : List (Nat → Nat)} {i : Nat} (hi : i < l.length) (a b : Nat) : same (l.take (i + 1)) a b = (same (l.take i) a b && (has l[i] a == has l[i] b)) := by
  rw [List.take_succ_eq_append_getElem hi, same_snoc]
theorem same_no {l : List (Nat → Nat)} {i : Nat} (hi : i < l.length) {a b : Nat} (h : ¬ has l[i] a = has l[i] b) : same l a b = false := by
  cases hs : same l a b with
  | false => rfl
  | true => exact absurd (same_iff.1 hs _ (List.getElem_mem hi)) h
attribute [local irreducible] Calls
set_option maxHeartbeats 1000000 in
set_option maxRecDepth 100000 in
theorem alike_c (l : List (Nat → Nat)) (ho : ∀ S ∈ l, okS S) (hl : l.length ≤ 1000) (a b : Nat) (ha : a < 256) (hb : b < 256) (v : Value) (w : World) (hv : SetsR w v l) : Calls Tryd.prog 25 #[v, .int .i64 a, .int .i64 b] w fun e w' => e = .returned (.bool (same l a b)) ∧ Below w.heap.size w w' := by
  have HV := Lib.hid hv
  have HOK := Lib.hid ho
  obtain ⟨ao, cap, rfl, _⟩ := hv
  clear ho
  go_enter Tryd.func25, Tryd.ntmps25
  go_wp2_with fail
  go_loopw [7] (fun j wx => ∃ i : Nat, i ≤ l.length ∧ j = .int .i64 i ∧ same (l.take i) a b = true ∧ Below w.heap.size w wx) (fun j _ => l.length - (intOf j).toNat)
  case atStart => exact ⟨0, by omega, rfl, rfl, Below.refl _ _⟩
  case round =>
    obtain ⟨i, hi, rfl, hs, hw⟩ := hrel
    by_cases hlt : i < l.length
    · have t1 : decide (i < l.length) = true := by simp; omega
      obtain ⟨bs, off, rfl, hbs, c0, c1, c2, c3⟩ := (HV.out.below hw).at_ hlt
      have d0 : ∀ x : Ext wr, x.v.cell? ⟨bs, off + i * 4, none⟩ = some (.int .u64 (l[i] 0)) := fun x => x.cell c0
      have d1 : ∀ x : Ext wr, x.v.cell? ⟨bs, off + i * 4 + 1, none⟩ = some (.int .u64 (l[i] 1)) := fun x => x.cell c1
      have d2 : ∀ x : Ext wr, x.v.cell? ⟨bs, off + i * 4 + 2, none⟩ = some (.int .u64 (l[i] 2)) := fun x => x.cell c2
      have d3 : ∀ x : Ext wr, x.v.cell? ⟨bs, off + i * 4 + 3, none⟩ = some (.int .u64 (l[i] 3)) := fun x => x.cell c3
      have RA := Lib.hid (fun w1 => rhas_c l[i] (HOK.out _ (List.getElem_mem hlt)) a ha w1)
      have RB := Lib.hid (fun w1 => rhas_c l[i] (HOK.out _ (List.getElem_mem hlt)) b hb w1)
      have NO := Lib.hid (same_no (a := a) (b := b) hlt)
      have YE := Lib.hid (same_take hlt a b)
      have HS := Lib.hid hs
      have HW := Lib.hid hw
      unfold setV at RA RB
      clear c0 c1 c2 c3 hs hw
      generalize has l[i] a = p at *
      generalize has l[i] b = q at *
      generalize l[i] = S at *
      go_upto_region 4 with fail
      refine wp_region_ext (by kernel_rfl) (by kernel_rfl) ?_
      repeat (go_big_quiet_step (first | (go_at_call 20; first | exact Calls.ext_of (RA.out _) | exact Calls.ext_of (RB.out _))))
      refine wpQuiet_nil ?_
      intro _ hw'
      obtain ⟨xq, hw''⟩ := hw'
      subst hw''
      have Y4 := Lib.hid (below_step HW.out xq.h)
      clear HW d0 d1 d2 d3 RA RB
      generalize xq.v = wy at *
      cases p <;> cases q
      case true.true =>
        have YE' := Lib.hid (show same (l.take (i + 1)) a b = true from by rw [YE.out, HS.out]; rfl)
        go_wp2_with fail
        go_roundw
        case rel => exact ⟨i + 1, by omega, by go_num, YE'.out, Y4.out⟩
        case measure => go_light; simp [intOf]; omega
      case false.false =>
        have YE' := Lib.hid (show same (l.take (i + 1)) a b = true from by rw [YE.out, HS.out]; rfl)
        go_wp2_with fail
        go_roundw
        case rel => exact ⟨i + 1, by omega, by go_num, YE'.out, Y4.out⟩
        case measure => go_light; simp [intOf]; omega
      case true.false =>
        have NO' := Lib.hid (NO.out (by decide))
        go_wp2_with fail
        go_returns
        exact ⟨by rw [NO'.out]; rfl, Y4.out⟩
      case false.true =>
        have NO' := Lib.hid (NO.out (by decide))
        go_wp2_with fail
        go_returns
        exact ⟨by rw [NO'.out]; rfl, Y4.out⟩
    · obtain rfl : i = l.length := by omega
      rw [List.take_length] at hs
      go_wp2_with fail
      go_returns
      exact ⟨by rw [hs]; rfl, hw⟩
end Go.Proofs.YtonicgbejmghkaaDoor
