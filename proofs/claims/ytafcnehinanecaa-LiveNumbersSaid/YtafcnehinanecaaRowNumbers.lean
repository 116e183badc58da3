/- LiveNumbers: with other numbers a table is the document's, or it is refused; with all states it has the same longest matches. No condition beyond the row's own. -/
import Derived.Test.YtafcnehinanecaaLvNums
import Derived.Test.YtafcnehinanecaaOpenTab
import Derived.ChangeMaps5
namespace Go.Proofs.Ytafcnehinanecaa.liveNumbers
open Go.ChangeShapes Go.WideShapes Go.ChangeAt Go.RowKit Go.Deep
theorem own : ownKnob Try.prog.godebug = none := by kernel_rfl
theorem laid : laidOutB Try.prog = true := by kernel_rfl
set_option maxRecDepth 100000 in
theorem lifted (os : Os) (started : os.Started) (H : Type) (enc : TypeId × Value → H) :
    ReturnsInHanded {} Try.checked os 5 .any (Rows.liveNumbersSpec.pre6 enc Try.prog Try.f5 Rows.liveNumbersRow.domain false) (Rows.liveNumbersSpec.post enc Try.prog Try.f5 false true false false) := by
  refine returnsInHanded_of_change_sized (C := Try.checked) own started (by kernel_rfl) Try.func5
    (ChangeSpec.witness6 (enc := enc) (C := Try.checked) false ⟨#[], #[.agg (tbCs 0 0 (List.replicate 256 0) (.slice none 0 0) (.slice none 0 0)), .slice none 0 0, .string ⟨#[]⟩], []⟩ 8 (by kernel_rfl) (by kernel_rfl) (by kernel_rfl) (by kernel_rfl)) ?_
  intro W base args ds gs before hval0 hW hcnd hsz0 _
  have hsz : (DataW.weightsEach Try.prog (Try.f5.params.toList ++ Rows.liveNumbersSpec.plain.varTypes Try.prog) (ds ++ gs)).all (· ≤ reachBytes) = true := hsz0
  have hval : ∀ (j : Nat) t v, Try.f5.params[j]? = some t → args[j]? = some v → Value.okWide Try.prog W .any base t v := hval0
  have hW' := hW
  obtain ⟨p, q, hA0, hV, rfl, hfz, hnd⟩ := hW
  have hA : DataW.TrodAll enc Try.prog W 0 (fun _ => true) true Try.f5.params.toList args.toList ds p := hA0
  have hAk := hA
  rw [Try.params5] at hA hval hsz
  obtain ⟨v0, vs0, d0, ds0, p0, q0, hargs, rfl, rfl, h0, r0⟩ := trodAll_cons hA
  obtain ⟨v1, vs1, d1, ds1, p1, q1, rfl, rfl, rfl, h1, r1⟩ := trodAll_cons r0
  obtain ⟨v2, vs2, d2, ds2, p2, q2, rfl, rfl, rfl, h2, r2⟩ := trodAll_cons r1
  obtain ⟨rfl, rfl, rfl⟩ := trodAll_nil r2
  obtain rfl : args = #[v0, v1, v2] := by cases args; simp_all
  obtain ⟨rfl, rfl⟩ := trodVars_none hV
  obtain ⟨tv0, Tb0, rfl, hT0, hbg0⟩ := open_tab (hval 0 26 v0 rfl rfl) h0
  obtain ⟨l1, A1, cap1, rfl, hI1, hc1⟩ := open_intsCap (hval 1 24 v1 rfl rfl) h1
  obtain ⟨s2, rfl, rfl, rfl, w2⟩ := Go.ChangeMaps.open_string Try.underlying9 (hval 2 9 v2 rfl rfl) h2
  obtain ⟨b2, rfl⟩ := bytes_of s2
  have u2 : b2.length ≤ 9223372036854775807 := by rw [str_size] at w2; exact w2
  refine (liveNumbers_c tv0 Tb0 hbg0 l1 A1 cap1 hc1 b2 u2 W hT0 hI1).mono fun e W' ⟨he, bel⟩ => ?_
  subst he
  exact ⟨_, rfl, _, _, _, [], _, [], hW', trodAll_mk1 (shut_bool Try.underlying4 _), below_trodAll laid bel (by kernel_rfl) hAk (fun x hx => hW'.lt x (by first | (simp at hx; done) | simpa using hx)), rfl, bel.frame _, fun h => by cases h⟩
theorem over : Rows.liveNumbersRow.holds Try.pinned (OpenSpec.ofChange Rows.liveNumbersSpec) :=
  OpenClaim.holds_of_wide 5 Try.f5 rfl rfl rfl rfl rfl rfl rfl ⟨rfl, rfl, rfl, rfl, rfl⟩ rfl rfl rfl rfl rfl (by kernel_rfl) Try.func5 (by kernel_rfl)
    (of_decide_eq_true (by kernel_rfl)) (by unfold Func.isWrapper; first | (rw [if_pos (by decide +kernel)]; kernel_rfl) | (rw [if_neg (by decide +kernel)]; exact ⟨rfl, rfl⟩))
    (fun os started H enc _ => lifted os started H enc)
end Go.Proofs.Ytafcnehinanecaa.liveNumbers
namespace Go.Proofs.Ytafcnehinanecaa
theorem liveNumbers_holds : Rows.LiveNumbersSaid := liveNumbers.over
#print axioms liveNumbers_holds
end Go.Proofs.Ytafcnehinanecaa
