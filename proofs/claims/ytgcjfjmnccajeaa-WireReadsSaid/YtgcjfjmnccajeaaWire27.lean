/- Two responses, compared. -/
import Derived.Test.YtgcjfjmnccajeaaWire26
import Derived.Test.YtgcjfjmnccajeaaCuts25
namespace Go.Proofs.Ytgcjfjmnccajeaa
open Go.RowKit
def eqR (r r' : Rp) : Bool := decide (r.err = r'.err) && decide (r.at_ = r'.at_) && eqTs r.toks r'.toks
set_option maxHeartbeats 4000000 in
set_option maxRecDepth 100000 in
theorem same25_c (v v' : Value) (r r' : Rp) (w : World) (hl : r.toks.length < 2 ^ 62) (hv : TokS w v r.toks) (hv' : TokS w v' r'.toks) : Calls Try.prog 13 #[.agg #[.int .i64 r.err, .int .i64 r.at_, v], .agg #[.int .i64 r'.err, .int .i64 r'.at_, v']] w fun e w' => e = .returned (.bool (eqR r r')) ∧ Below w.heap.size w w' := by
  have HT := Lib.hid hv
  have HT' := Lib.hid hv'
  have HS := Lib.hid (fun w1 k1 k2 => same22_c v v' r.toks r'.toks w1 hl k1 k2)
  have E := Lib.hid (eqR.eq_1 r r')
  obtain ⟨ao, cap, rfl, _⟩ := hv
  obtain ⟨ao', cap', rfl, _⟩ := hv'
  generalize eqR r r' = q at *
  obtain ⟨e, a, ts⟩ := r
  obtain ⟨e', a', ts'⟩ := r'
  simp only at HT HT' HS E ⊢
  generalize eqTs ts ts' = et at *
  by_cases h1 : e = e'
  · have t1 : (e == e') = true := by simp [h1]
    by_cases h2 : a = a'
    · have t2 : (a == a') = true := by simp [h2]
      go_enter Try.func13, Try.ntmps13
      go_wp2_with (go_at_call 25; refine (HS.out _ ((TokS.below HT.out) (by first | exact Below.refl _ _ | exact below_alloc (below_alloc (Below.refl _ _) _) _)) ((TokS.below HT'.out) (by first | exact Below.refl _ _ | exact below_alloc (below_alloc (Below.refl _ _) _) _))).mono ?_; rintro e w1 ⟨rfl, k1⟩)
      go_returns
      rw [E.out]
      exact ⟨by simp [h1, h2], below_step (below_alloc (below_alloc (Below.refl _ _) _) _) k1⟩
    · have t2 : (a == a') = false := by simp [h2]
      go_enter Try.func13, Try.ntmps13
      go_wp2_with fail
      go_returns
      rw [E.out]
      exact ⟨by simp [h1, h2], below_alloc (below_alloc (Below.refl _ _) _) _⟩
  · have t1 : (e == e') = false := by simp [h1]
    go_enter Try.func13, Try.ntmps13
    go_wp2_with fail
    go_returns
    rw [E.out]
    exact ⟨by simp [h1], below_alloc (below_alloc (Below.refl _ _) _) _⟩
end Go.Proofs.Ytgcjfjmnccajeaa
