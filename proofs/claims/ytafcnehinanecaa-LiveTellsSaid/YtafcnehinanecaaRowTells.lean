/- LiveTells: of any table the states that are reached, that are useful, and their order, are the document's; so is the one that is trimmed. No condition beyond the row's own. -/
import Derived.Test.YtafcnehinanecaaLvTell
import Derived.Test.YtafcnehinanecaaOpenTab
namespace Go.Proofs.Ytafcnehinanecaa.liveTells
open Go.ChangeShapes Go.WideShapes Go.ChangeAt Go.RowKit Go.Deep
theorem own : ownKnob Try.prog.godebug = none := by kernel_rfl
theorem laid : laidOutB Try.prog = true := by kernel_rfl
set_option maxRecDepth 100000 in
theorem lifted (os : Os) (started : os.Started) (H : Type) (enc : TypeId × Value → H) :
    ReturnsInHanded {} Try.checked os 3 .any (Rows.liveTellsSpec.pre6 enc Try.prog Try.f3 Rows.liveTellsRow.domain false) (Rows.liveTellsSpec.post enc Try.prog Try.f3 false true false false) := by
  refine returnsInHanded_of_change_sized (C := Try.checked) own started (by kernel_rfl) Try.func3
    (ChangeSpec.witness6 (enc := enc) (C := Try.checked) false ⟨#[], #[.agg (tbCs 0 0 (List.replicate 256 0) (.slice none 0 0) (.slice none 0 0))], []⟩ 8 (by kernel_rfl) (by kernel_rfl) (by kernel_rfl) (by kernel_rfl)) ?_
  intro W base args ds gs before hval0 hW hcnd hsz0 _
  have hsz : (DataW.weightsEach Try.prog (Try.f3.params.toList ++ Rows.liveTellsSpec.plain.varTypes Try.prog) (ds ++ gs)).all (· ≤ reachBytes) = true := hsz0
  have hval : ∀ (j : Nat) t v, Try.f3.params[j]? = some t → args[j]? = some v → Value.okWide Try.prog W .any base t v := hval0
  have hW' := hW
  obtain ⟨p, q, hA0, hV, rfl, hfz, hnd⟩ := hW
  have hA : DataW.TrodAll enc Try.prog W 0 (fun _ => true) true Try.f3.params.toList args.toList ds p := hA0
  have hAk := hA
  rw [Try.params3] at hA hval hsz
  obtain ⟨v0, vs0, d0, ds0, p0, q0, hargs, rfl, rfl, h0, r0⟩ := trodAll_cons hA
  obtain ⟨rfl, rfl, rfl⟩ := trodAll_nil r0
  obtain rfl : args = #[v0] := by cases args; simp_all
  obtain ⟨rfl, rfl⟩ := trodVars_none hV
  obtain ⟨tv0, Tb0, rfl, hT0, hbg0⟩ := open_tab (hval 0 26 v0 rfl rfl) h0
  refine (liveTells_c tv0 Tb0 hbg0 W hT0).mono fun e W' ⟨he, bel⟩ => ?_
  subst he
  exact ⟨_, rfl, _, _, _, [], _, [], hW', trodAll_mk1 (shut_bool Try.underlying4 _), below_trodAll laid bel (by kernel_rfl) hAk (fun x hx => hW'.lt x (by first | (simp at hx; done) | simpa using hx)), rfl, bel.frame _, fun h => by cases h⟩
theorem over : Rows.liveTellsRow.holds Try.pinned (OpenSpec.ofChange Rows.liveTellsSpec) :=
  OpenClaim.holds_of_wide 3 Try.f3 rfl rfl rfl rfl rfl rfl rfl ⟨rfl, rfl, rfl, rfl, rfl⟩ rfl rfl rfl rfl rfl (by kernel_rfl) Try.func3 (by kernel_rfl)
    (of_decide_eq_true (by kernel_rfl)) (by unfold Func.isWrapper; first | (rw [if_pos (by decide +kernel)]; kernel_rfl) | (rw [if_neg (by decide +kernel)]; exact ⟨rfl, rfl⟩))
    (fun os started H enc _ => lifted os started H enc)
end Go.Proofs.Ytafcnehinanecaa.liveTells
namespace Go.Proofs.Ytafcnehinanecaa
theorem liveTells_holds : Rows.LiveTellsSaid := liveTells.over
#print axioms liveTells_holds
end Go.Proofs.Ytafcnehinanecaa
