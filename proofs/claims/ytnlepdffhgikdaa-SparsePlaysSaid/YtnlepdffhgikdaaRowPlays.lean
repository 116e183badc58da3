/- SparsePlays: in every order of calls those that are there, and their order, are the document's. No condition beyond the row's own. -/
import Derived.Test.YtnlepdffhgikdaaSPlays03
namespace Go.Proofs.Ytnlepdffhgikdaa.sparsePlays
open Go.ChangeShapes Go.WideShapes Go.ChangeAt Go.RowKit Go.Deep
theorem own : ownKnob Try.prog.godebug = none := by kernel_rfl
theorem laid : laidOutB Try.prog = true := by kernel_rfl
set_option maxRecDepth 100000 in
theorem lifted (os : Os) (started : os.Started) (H : Type) (enc : TypeId × Value → H) :
    ReturnsInHanded {} Try.checked os 3 .any (Rows.sparsePlaysSpec.pre6 enc Try.prog Try.f3 Rows.sparsePlaysRow.domain false) (Rows.sparsePlaysSpec.post enc Try.prog Try.f3 false true false false) := by
  refine returnsInHanded_of_change_sized (C := Try.checked) own started (by kernel_rfl) Try.func3
    (ChangeSpec.witness6 (enc := enc) (C := Try.checked) false ⟨#[], #[.int .i64 0, .slice none 0 0], []⟩ 8 (by kernel_rfl) (by kernel_rfl) (by kernel_rfl) (by kernel_rfl)) ?_
  intro W base args ds gs before hval0 hW hcnd hsz0 _
  have hsz : (DataW.weightsEach Try.prog (Try.f3.params.toList ++ Rows.sparsePlaysSpec.plain.varTypes Try.prog) (ds ++ gs)).all (· ≤ reachBytes) = true := hsz0
  have hval : ∀ (j : Nat) t v, Try.f3.params[j]? = some t → args[j]? = some v → Value.okWide Try.prog W .any base t v := hval0
  have hW' := hW
  obtain ⟨p, q, hA0, hV, rfl, hfz, hnd⟩ := hW
  have hA : DataW.TrodAll enc Try.prog W 0 (fun _ => true) true Try.f3.params.toList args.toList ds p := hA0
  have hAk := hA
  rw [Try.params3] at hA hval hsz
  obtain ⟨v0, vs0, d0, ds0, p0, q0, hargs, rfl, rfl, h0, r0⟩ := trodAll_cons hA
  obtain ⟨v1, vs1, d1, ds1, p1, q1, rfl, rfl, rfl, h1, r1⟩ := trodAll_cons r0
  obtain ⟨rfl, rfl, rfl⟩ := trodAll_nil r1
  obtain rfl : args = #[v0, v1] := by cases args; simp_all
  obtain ⟨rfl, rfl⟩ := trodVars_none hV
  obtain ⟨a0, rfl, rfl, rfl, w0⟩ := open_int Try.underlying3 (hval 0 3 v0 rfl rfl) h0
  obtain ⟨A1, len1, cap1, X1, hv1, hlc1, hcm1, hS1, hX1⟩ := open_rows Try.underlying22 Try.underlying30 (by kernel_rfl) (by kernel_rfl) (by kernel_rfl) (by decide) (hval 1 22 v1 rfl rfl) h1
  subst hv1
  have hl1 := rows_size hsz (j := 1) rfl rfl Try.underlying22 h1
  rw [show Try.prog.bytesOf 30 = 16 from by kernel_rfl] at hl1
  refine (splays_all a0 A1 len1 cap1 X1 W hS1).mono fun e W' ⟨he, bel⟩ => ?_
  subst he
  exact ⟨_, rfl, _, _, _, [], _, [], hW', trodAll_mk1 (shut_bool Try.underlying4 _), below_trodAll laid bel (by kernel_rfl) hAk (fun x hx => hW'.lt x (by first | (simp at hx; done) | simpa using hx)), rfl, bel.frame _, fun h => by cases h⟩
theorem over : Rows.sparsePlaysRow.holds Try.pinned (OpenSpec.ofChange Rows.sparsePlaysSpec) :=
  OpenClaim.holds_of_wide 3 Try.f3 rfl rfl rfl rfl rfl rfl rfl ⟨rfl, rfl, rfl, rfl, rfl⟩ rfl rfl rfl rfl rfl (by kernel_rfl) Try.func3 (by kernel_rfl)
    (of_decide_eq_true (by kernel_rfl)) (by unfold Func.isWrapper; first | (rw [if_pos (by decide +kernel)]; kernel_rfl) | (rw [if_neg (by decide +kernel)]; exact ⟨rfl, rfl⟩))
    (fun os started H enc _ => lifted os started H enc)
end Go.Proofs.Ytnlepdffhgikdaa.sparsePlays
namespace Go.Proofs.Ytnlepdffhgikdaa
theorem sparsePlays_holds : Rows.SparsePlaysSaid := sparsePlays.over
#print axioms sparsePlays_holds
end Go.Proofs.Ytnlepdffhgikdaa
