/- Two slices of tokens, compared. -/
import Derived.Test.YtgcjfjmnccajeaaWire13
import Derived.Test.YtgcjfjmnccajeaaWEq
import Derived.Test.YtgcjfjmnccajeaaExt
namespace Go.Proofs.Ytgcjfjmnccajeaa
open Go.RowKit
def eqTs (l l' : List (Int × Int × Int)) : Bool := decide (l = l')
theorem eqTs_len {l l' : List (Int × Int × Int)} (h : ¬ l.length = l'.length) : eqTs l l' = false := by
  unfold eqTs
  rw [decide_eq_false_iff_not]
  rintro rfl
  exact h rfl
theorem eqTs_ne {l l' : List (Int × Int × Int)} (i : Nat) (h : i < l.length) (h' : i < l'.length) (hn : ¬ l[i] = l'[i]) : eqTs l l' = false := by
  unfold eqTs
  rw [decide_eq_false_iff_not]
  rintro rfl
  exact hn rfl
theorem eqTs_all {l l' : List (Int × Int × Int)} (h : l.length = l'.length) (ha : ∀ j (h : j < l.length) (h' : j < l'.length), l[j] = l'[j]) : eqTs l l' = true := by
  unfold eqTs
  rw [decide_eq_true_iff]
  exact List.ext_getElem h ha
theorem tok_ne (a0 a1 a2 b0 b1 b2 : Int) : (!(a0 == b0 && (a1 == b1 && a2 == b2))) = !decide ((a0, a1, a2) = (b0, b1, b2)) := by
  by_cases h0 : a0 = b0 <;> by_cases h1 : a1 = b1 <;> by_cases h2 : a2 = b2 <;> simp [h0, h1, h2]
attribute [local irreducible] Calls
set_option maxHeartbeats 4000000 in
set_option maxRecDepth 100000 in
theorem same22_c (v v' : Value) (l l' : List (Int × Int × Int)) (w : World) (hl : l.length < 2 ^ 62) (hv : TokS w v l) (hv' : TokS w v' l') : Calls Try.prog 25 #[v, v'] w fun e w' => e = .returned (.bool (eqTs l l')) ∧ Below w.heap.size w w' := by
  obtain ⟨ao, cap, rfl, hcl⟩ := hv
  obtain ⟨ao', cap', rfl, hcl'⟩ := hv'
  have HCL := Lib.hid hcl
  have HCL' := Lib.hid hcl'
  clear hcl hcl'
  by_cases hn : l.length = l'.length
  · have t0 : ((l.length : Int) != (l'.length : Int)) = false := by simp [hn]
    go_enter Try.func25, Try.ntmps25
    go_wp2_with fail
    go_loopw [5] (fun v5 wr => ∃ i : Nat, i ≤ l.length ∧ v5 = .int .i64 i ∧ (∀ j (_ : j < i) (h : j < l.length) (h' : j < l'.length), l[j] = l'[j]) ∧ Below w.heap.size w wr) (fun v5 _ => l.length - (intOf v5).toNat)
    case atStart => exact ⟨0, Nat.zero_le _, rfl, fun j hj => by omega, by first | exact Below.refl _ _ | exact below_draws (Below.refl _ _) 1⟩
    case round =>
      obtain ⟨i, hi, rfl, hall, hbl⟩ := hrel
      have HB := Lib.hid hbl
      have HA := Lib.hid hall
      clear hall
      by_cases hlt : i < l.length
      · have t1 : decide (i < l.length) = true := by simp; omega
        have hlt' : i < l'.length := (by omega)
        obtain ⟨b, off, rfl, hbb, hcs⟩ := HCL.out (by omega)
        obtain ⟨b', off', rfl, hbb', hcs'⟩ := HCL'.out (by omega)
        obtain ⟨q0, q1, q2⟩ := hcs i hlt
        obtain ⟨r0, r1, r2⟩ := hcs' i hlt'
        have p0 : ∀ y : Ext wr, y.v.cell? ⟨b, off + i * 3, none⟩ = some (.int .i64 l[i].1) := fun y => y.cell ((hbl.cell (p := ⟨b, off + i * 3, none⟩) hbb).trans q0)
        have p1 : ∀ y : Ext wr, y.v.cell? ⟨b, off + i * 3 + 1, none⟩ = some (.int .i64 l[i].2.1) := fun y => y.cell ((hbl.cell (p := ⟨b, off + i * 3 + 1, none⟩) hbb).trans q1)
        have p2 : ∀ y : Ext wr, y.v.cell? ⟨b, off + i * 3 + 2, none⟩ = some (.int .i64 l[i].2.2) := fun y => y.cell ((hbl.cell (p := ⟨b, off + i * 3 + 2, none⟩) hbb).trans q2)
        have s0 : ∀ y : Ext wr, y.v.cell? ⟨b', off' + i * 3, none⟩ = some (.int .i64 l'[i].1) := fun y => y.cell ((hbl.cell (p := ⟨b', off' + i * 3, none⟩) hbb').trans r0)
        have s1 : ∀ y : Ext wr, y.v.cell? ⟨b', off' + i * 3 + 1, none⟩ = some (.int .i64 l'[i].2.1) := fun y => y.cell ((hbl.cell (p := ⟨b', off' + i * 3 + 1, none⟩) hbb').trans r1)
        have s2 : ∀ y : Ext wr, y.v.cell? ⟨b', off' + i * 3 + 2, none⟩ = some (.int .i64 l'[i].2.2) := fun y => y.cell ((hbl.cell (p := ⟨b', off' + i * 3 + 2, none⟩) hbb').trans r2)
        have NE := Lib.hid (eqTs_ne (l := l) (l' := l') i hlt hlt')
        have ST := Lib.hid (fun (he : l[i] = l'[i]) => show ∀ j (_ : j < i + 1) (h : j < l.length) (h' : j < l'.length), l[j] = l'[j] from fun j hj h h' => by
          rcases Nat.lt_succ_iff_lt_or_eq.1 hj with hj | rfl
          · exact HA.out j hj h h'
          · exact he)
        clear q0 q1 q2 r0 r1 r2 hcs hcs' hbl
        generalize l[i] = tk at *
        generalize l'[i] = tk' at *
        obtain ⟨x, y, z⟩ := tk
        obtain ⟨x', y', z'⟩ := tk'
        simp only at p0 p1 p2 s0 s1 s2
        have TN := token_neq x y z x' y' z'
        rw [tok_ne] at TN
        by_cases he : (x, y, z) = (x', y', z')
        · rw [decide_eq_true he] at TN
          simp only [Bool.not_true] at TN
          go_upto_region 6 with fail
          refine wp_region_ext (by kernel_rfl) (by kernel_rfl) ?_
          repeat (go_big_quiet_step (fail))
          refine wpQuiet_nil ?_
          intro _ hw'
          obtain ⟨xq, hw''⟩ := hw'
          subst hw''
          go_wp2_with fail
          go_roundw
          case rel => exact ⟨i + 1, by omega, by go_num, ST.out he, HB.out.trans (xq.h.mono (by have := HB.out.size; omega))⟩
          case measure => go_light; simp [intOf]; omega
        · have N := NE.out he
          rw [decide_eq_false he] at TN
          simp only [Bool.not_false] at TN
          go_upto_region 6 with fail
          refine wp_region_ext (by kernel_rfl) (by kernel_rfl) ?_
          repeat (go_big_quiet_step (fail))
          refine wpQuiet_nil ?_
          intro _ hw'
          obtain ⟨xq, hw''⟩ := hw'
          subst hw''
          go_wp2_with fail
          go_returns
          rw [N]
          exact ⟨rfl, HB.out.trans (xq.h.mono (by have := HB.out.size; omega))⟩
      · have t1 : decide (i < l.length) = false := by simp; omega
        have e : i = l.length := (by omega)
        have EQ := Lib.hid (eqTs_all hn (fun j h h' => HA.out j (by omega) h h'))
        go_wp2_with fail
        go_returns
        rw [EQ.out]
        exact ⟨rfl, HB.out⟩
  · have t0 : ((l.length : Int) != (l'.length : Int)) = true := by simp; omega
    have E := Lib.hid (eqTs_len hn)
    go_enter Try.func25, Try.ntmps25
    go_wp2_with fail
    go_returns
    rw [E.out]
    exact ⟨rfl, by first | exact Below.refl _ _ | exact below_draws (Below.refl _ _) 1⟩
end Go.Proofs.Ytgcjfjmnccajeaa
