/- ArenaTwice: two arenas that are told the same answer the same, whatever a third one is told between. No condition beyond the row's own. -/
import Derived.Test.YtgckncggcdmaaaaTwice02
import Derived.Test.YtgckncggcdmaaaaSize
namespace Go.Proofs.Ytgckncggcdmaaaa.arenaTwice
open Go.ChangeShapes Go.WideShapes Go.ChangeAt Go.RowKit Go.Deep
theorem own : ownKnob Try.prog.godebug = none := by kernel_rfl
theorem laid : laidOutB Try.prog = true := by kernel_rfl
set_option maxRecDepth 100000 in
theorem lifted (os : Os) (started : os.Started) (H : Type) (enc : TypeId × Value → H) :
    ReturnsInHanded {} Try.checked os 3 .any (Rows.arenaTwiceSpec.pre6 enc Try.prog Try.f3 Rows.arenaTwiceRow.domain false) (Rows.arenaTwiceSpec.post enc Try.prog Try.f3 false true false false) := by
  refine returnsInHanded_of_change_sized (C := Try.checked) own started (by kernel_rfl) Try.func3
    (ChangeSpec.witness6 (enc := enc) (C := Try.checked) false ⟨#[], #[.int .i64 0, .slice none 0 0, .slice none 0 0], []⟩ 8 (by kernel_rfl) (by kernel_rfl) (by kernel_rfl) (by kernel_rfl)) ?_
  intro W base args ds gs before hval0 hW hcnd hsz0 _
  have hsz : (DataW.weightsEach Try.prog (Try.f3.params.toList ++ Rows.arenaTwiceSpec.plain.varTypes Try.prog) (ds ++ gs)).all (· ≤ reachBytes) = true := hsz0
  have hval : ∀ (j : Nat) t v, Try.f3.params[j]? = some t → args[j]? = some v → Value.okWide Try.prog W .any base t v := hval0
  have hW' := hW
  obtain ⟨p, q, hA0, hV, rfl, hfz, hnd⟩ := hW
  have hA : DataW.TrodAll enc Try.prog W 0 (fun _ => true) true Try.f3.params.toList args.toList ds p := hA0
  have hAk := hA
  rw [Try.params3] at hA hval hsz
  obtain ⟨v0, vs0, d0, ds0, p0, q0, hargs, rfl, rfl, h0, r0⟩ := trodAll_cons hA
  obtain ⟨v1, vs1, d1, ds1, p1, q1, rfl, rfl, rfl, h1, r1⟩ := trodAll_cons r0
  obtain ⟨v2, vs2, d2, ds2, p2, q2, rfl, rfl, rfl, h2, r2⟩ := trodAll_cons r1
  obtain ⟨rfl, rfl, rfl⟩ := trodAll_nil r2
  obtain rfl : args = #[v0, v1, v2] := by cases args; simp_all
  obtain ⟨rfl, rfl⟩ := trodVars_none hV
  obtain ⟨a0, rfl, rfl, rfl, w0⟩ := open_int Try.underlying3 (hval 0 3 v0 rfl rfl) h0
  obtain ⟨A1, len1, cap1, X1, hv1, hlc1, hcm1, hS1, hX1⟩ := open_rows Try.underlying22 Try.underlying28 (by kernel_rfl) (by kernel_rfl) (by kernel_rfl) (by decide) (hval 1 22 v1 rfl rfl) h1
  subst hv1
  have hl1 := rows_size hsz (j := 1) rfl rfl Try.underlying22 h1
  rw [show Try.prog.bytesOf 28 = 32 from by kernel_rfl] at hl1
  obtain ⟨A2, len2, cap2, X2, hv2, hlc2, hcm2, hS2, hX2⟩ := open_rows Try.underlying22 Try.underlying28 (by kernel_rfl) (by kernel_rfl) (by kernel_rfl) (by decide) (hval 2 22 v2 rfl rfl) h2
  subst hv2
  have hl2 := rows_size hsz (j := 2) rfl rfl Try.underlying22 h2
  rw [show Try.prog.bytesOf 28 = 32 from by kernel_rfl] at hl2
  refine (arenaTwice_c a0 A1 len1 cap1 X1 A2 len2 cap2 X2 W hS1 hS2 hX1 hX2).mono fun e W' ⟨he, bel⟩ => ?_
  subst he
  exact ⟨_, rfl, _, _, _, [], _, [], hW', trodAll_mk1 (shut_bool Try.underlying4 _), below_trodAll laid bel (by kernel_rfl) hAk (fun x hx => hW'.lt x (by first | (simp at hx; done) | simpa using hx)), rfl, bel.frame _, fun h => by cases h⟩
theorem over : Rows.arenaTwiceRow.holds Try.pinned (OpenSpec.ofChange Rows.arenaTwiceSpec) :=
  OpenClaim.holds_of_wide 3 Try.f3 rfl rfl rfl rfl rfl rfl rfl ⟨rfl, rfl, rfl, rfl, rfl⟩ rfl rfl rfl rfl rfl (by kernel_rfl) Try.func3 (by kernel_rfl)
    (of_decide_eq_true (by kernel_rfl)) (by unfold Func.isWrapper; first | (rw [if_pos (by decide +kernel)]; kernel_rfl) | (rw [if_neg (by decide +kernel)]; exact ⟨rfl, rfl⟩))
    (fun os started H enc _ => lifted os started H enc)
end Go.Proofs.Ytgckncggcdmaaaa.arenaTwice
namespace Go.Proofs.Ytgckncggcdmaaaa
theorem arenaTwice_holds : Rows.ArenaTwiceSaid := arenaTwice.over
#print axioms arenaTwice_holds
end Go.Proofs.Ytgckncggcdmaaaa
