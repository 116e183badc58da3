/- An argument that is a request. -/
import Derived.Test.YtgcjfjmnccajeaaWire21
import Derived.Test.YtgcjfjmnccajeaaSize
import Derived.ChangeArms
namespace Go.Proofs.Ytgcjfjmnccajeaa
open Go.ChangeShapes Go.WideShapes Go.ChangeAt Go.RowKit Go.Deep
theorem trod_quota {H : Type} {enc : TypeId × Value → H} {w : World} {base : Nat} {spare : Nat → Bool} {held : Bool} {fuel : Nat} {cs : List Value} {x : DataW H × List MemPlace} (h : DataW.trod enc Try.prog w base spare held fuel 24 cs = some x) :
    ∃ q0 q1 q2 q3 q4 : Int, cs = [.int .i64 q0, .int .i64 q1, .int .i64 q2, .int .i64 q3, .int .i64 q4] := by
  obtain ⟨ns, e, hl, _⟩ := trod_i64s Try.underlying24 (by kernel_rfl) (by kernel_rfl) (by kernel_rfl) h
  match ns, hl with
  | [q0, q1, q2, q3, q4], _ => exact ⟨q0, q1, q2, q3, q4, e⟩
theorem trod_req {H : Type} {enc : TypeId × Value → H} {w : World} {base : Nat} {spare : Nat → Bool} {held : Bool} {fuel : Nat} {cs : List Value} {x : DataW H × List MemPlace} (h : DataW.trod enc Try.prog w base spare held fuel 26 cs = some x) :
    ∃ (r : Rq) (q : DataW H), cs = [.int .i64 r.kind, .int .i64 r.tenant, .int .i64 r.q0, .int .i64 r.q1, .int .i64 r.q2, .int .i64 r.q3, .int .i64 r.q4, .string ⟨r.text.toArray⟩] ∧ x.1 = .agg [.lit (.int .i64 r.kind), .lit (.int .i64 r.tenant), q, .lit (.string r.text)] := by
  obtain ⟨xs, n, _, rfl, hl, hlen, hf⟩ := DataW.trod_struct Try.underlying26 h
  rw [show Try.prog.cellsOf 26 = 8 from by kernel_rfl] at hl
  match xs, hlen, cs, hl with
  | [y0, y1, y2, y3], _, [c0, c1, c2, c3, c4, c5, c6, c7], _ =>
    have h0 := hf 0 _ rfl
    have h1 := hf 1 _ rfl
    have h2 := hf 2 _ rfl
    have h3 := hf 3 _ rfl
    have e0 : DataW.trod enc Try.prog w base spare held n 3 ([c0, c1, c2, c3, c4, c5, c6, c7].take (Try.prog.cellsOf 3)) = some y0 := h0
    have e1 : DataW.trod enc Try.prog w base spare held n 3 ([c1, c2, c3, c4, c5, c6, c7].take (Try.prog.cellsOf 3)) = some y1 := h1
    have e2 : DataW.trod enc Try.prog w base spare held n 24 ([c2, c3, c4, c5, c6, c7].take (Try.prog.cellsOf 24)) = some y2 := h2
    have e3 : DataW.trod enc Try.prog w base spare held n 9 ([c7].take (Try.prog.cellsOf 9)) = some y3 := h3
    rw [show Try.prog.cellsOf 3 = 1 from by kernel_rfl] at e0 e1
    rw [show Try.prog.cellsOf 24 = 5 from by kernel_rfl] at e2
    rw [show Try.prog.cellsOf 9 = 1 from by kernel_rfl] at e3
    obtain ⟨k, ek, rfl, _⟩ := DataW.trod_int Try.underlying3 e0
    obtain ⟨t, et, rfl, _⟩ := DataW.trod_int Try.underlying3 e1
    obtain ⟨q0, q1, q2, q3, q4, eq⟩ := trod_quota e2
    obtain ⟨s, es, rfl, _⟩ := DataW.trod_string Try.underlying9 e3
    refine ⟨⟨k, t, q0, q1, q2, q3, q4, s.data.toList⟩, y2.1, ?_, rfl⟩
    have ek : [c0] = [Value.int .i64 k] := ek
    have et : [c1] = [Value.int .i64 t] := et
    have eq : [c2, c3, c4, c5, c6] = [Value.int .i64 q0, .int .i64 q1, .int .i64 q2, .int .i64 q3, .int .i64 q4] := eq
    have es : [c7] = [Value.string s] := es
    injection ek with ek; injection et with et; injection es with es
    injection eq with a0 eq; injection eq with a1 eq; injection eq with a2 eq; injection eq with a3 eq; injection eq with a4 _
    rw [ek, et, es, a0, a1, a2, a3, a4]
/-- The request of an argument. -/
theorem open_req {H : Type} {enc : TypeId × Value → H} {W : World} {r : Reach} {b0 : Nat} {v : Value} {d : DataW H} {p : List MemPlace} {ts : List TypeId} {ds : List (DataW H)} {j : Nat}
    (hv : Value.okWide Try.prog W r b0 26 v) (h : DataW.Trod enc Try.prog W 0 (fun _ => true) true 26 v d p)
    (hsz : (DataW.weightsEach Try.prog ts ds).all (· ≤ reachBytes) = true) (htj : ts[j]? = some 26) (hdj : ds[j]? = some d) :
    ∃ r : Rq, v = .agg #[.int .i64 r.kind, .int .i64 r.tenant, .int .i64 r.q0, .int .i64 r.q1, .int .i64 r.q2, .int .i64 r.q3, .int .i64 r.q4, .string ⟨r.text.toArray⟩] ∧ r.text.length ≤ 140737488351232 := by
  obtain ⟨cs, rfl, hs⟩ := okWide_struct Try.underlying26 hv
  obtain ⟨fuel, hf⟩ := h
  have hf' : DataW.trod enc Try.prog W 0 (fun _ => true) true fuel 26 cs.toList = some (d, p) := by simpa [Value.cells] using hf
  obtain ⟨r, q, e, hx⟩ := trod_req hf'
  have hr : reachBytes = 140737488351232 := by decide
  refine ⟨r, by rw [← Array.toArray_toList (xs := cs), e], ?_⟩
  have := List.all_eq_true.1 hsz r.text.length (DataW.weights_mem_each htj hdj _ (by
    have hx : d = _ := hx
    rw [hx]; simp only [DataW.weights, Try.underlying26]
    simp [DataW.weightsEach, DataW.weights]))
  rw [hr] at this
  simpa using this
end Go.Proofs.Ytgcjfjmnccajeaa
