/- An argument that is a response. -/
import Derived.Test.YtgcjfjmnccajeaaOpenReq
namespace Go.Proofs.Ytgcjfjmnccajeaa
open Go.ChangeShapes Go.WideShapes Go.ChangeAt Go.RowKit Go.Deep
theorem wf_i64 {n : Int} (h : (Lit.int .i64 n).wf = true) : wfI n := by
  have := bounds_i64 h
  unfold wfI; omega
theorem trod_token {H : Type} {enc : TypeId × Value → H} {w : World} {base : Nat} {spare : Nat → Bool} {held : Bool} {fuel : Nat} {cs : List Value} {x : DataW H × List MemPlace} (h : DataW.trod enc Try.prog w base spare held fuel 78 cs = some x) :
    ∃ t : Int × Int × Int, cs = [.int .i64 t.1, .int .i64 t.2.1, .int .i64 t.2.2] ∧ wfI t.2.2 := by
  obtain ⟨ns, e, hl, hw⟩ := trod_i64s Try.underlying78 (by kernel_rfl) (by kernel_rfl) (by kernel_rfl) h
  match ns, hl with
  | [a, b, c], _ => exact ⟨(a, b, c), e, wf_i64 (hw c (by simp))⟩
def w3 (W : World) (a : Addr) (i : Nat) (x : Int × Int × Int) : Prop := W.cell? (a.add (i * 3 + 0)) = some (.int .i64 x.1) ∧ W.cell? (a.add (i * 3 + 1)) = some (.int .i64 x.2.1) ∧ W.cell? (a.add (i * 3 + 2)) = some (.int .i64 x.2.2)
theorem trod_tokens {H : Type} {enc : TypeId × Value → H} {W : World} {fuel : Nat} {v : Value} {x : DataW H × List MemPlace} (hf : DataW.trod enc Try.prog W 0 (fun _ => true) true fuel 34 [v] = some x) :
    ∃ L : List (Int × Int × Int), TokS W v L ∧ ∀ t ∈ L, wfI t.2.2 := by
  rcases open_slice Try.underlying34 hf with ⟨hcs, _⟩ | ⟨a, len, cap, m, n, D, Pl, hcs, _, hl, hm, hmm, hx, hi⟩
  · injection hcs with hcs
    subst hcs
    exact ⟨[], ⟨none, 0, rfl, fun h => absurd h (by simp)⟩, by simp⟩
  · injection hcs with hcs
    subst hcs
    rw [show Try.prog.cellsOf 78 = 3 from by kernel_rfl] at hi
    have hle : len ≤ m := by rw [hmm]; split <;> omega
    have key : ∀ i, i < len → ∃ x : Int × Int × Int, w3 W a i x ∧ wfI x.2.2 := by
      intro i hil
      obtain ⟨cs', hc, ht'⟩ := hi i (by omega)
      obtain ⟨t, rfl, hw⟩ := trod_token ht'
      obtain ⟨_, _, hat⟩ := World.cells?_some hc
      refine ⟨t, ?_, hw⟩
      have h0 := hat 0 (by simp)
      have h1 := hat 1 (by simp)
      have h2 := hat 2 (by simp)
      rw [Go.Deep.add_add] at h0 h1 h2
      exact ⟨h0, h1, h2⟩
    obtain ⟨X, hX⟩ : ∃ X : Nat → Int × Int × Int, ∀ i, i < len → w3 W a i (X i) ∧ wfI (X i).2.2 :=
      ⟨fun i => if h : i < len then (key i h).choose else (0, 0, 0), fun i hil => by simp only [dif_pos hil]; exact (key i hil).choose_spec⟩
    have hLl : ((List.range len).map X).length = len := by simp
    refine ⟨(List.range len).map X, ⟨some a, cap, by rw [hLl], fun h0 => ?_⟩, fun x hx => ?_⟩
    · rw [hLl] at h0
      have c0 := (hX 0 h0).1.1
      have hs : a.spot = none ∧ a.block < W.heap.size := by
        have : a.add (0 * 3 + 0) = a := by simp [Addr.add]
        rw [this] at c0
        unfold World.cell? at c0
        cases hh : W.heap[a.block]? with
        | none => rw [hh] at c0; cases c0
        | some o =>
          refine ⟨?_, (Array.getElem?_eq_some_iff.1 hh).1⟩
          rw [hh] at c0
          cases o <;> first | (cases c0; done) | skip
          cases hsp : a.spot with
          | none => rfl
          | some q => simp [hsp] at c0
      obtain ⟨bb, oo, ss⟩ := a
      obtain ⟨rfl, hb⟩ := hs
      have hadd : ∀ i, (⟨bb, oo, none⟩ : Addr).add i = ⟨bb, oo + i, none⟩ := fun i => by
        unfold Addr.add; split
        · rename_i h; rw [h]; rfl
        · rfl
      refine ⟨bb, oo, rfl, hb, fun i hi' => ?_⟩
      obtain ⟨h1, h2, h3⟩ := (hX i (by rw [hLl] at hi'; exact hi')).1
      rw [hadd] at h1 h2 h3
      rw [List.getElem_map, List.getElem_range]
      exact ⟨h1, h2, h3⟩
    · obtain ⟨i, hi', rfl⟩ := List.mem_map.1 hx
      exact (hX i (List.mem_range.1 hi')).2
/-- The response of an argument. -/
theorem open_resp {H : Type} {enc : TypeId × Value → H} {W : World} {r : Reach} {b0 : Nat} {v : Value} {d : DataW H} {p : List MemPlace}
    (hv : Value.okWide Try.prog W r b0 36 v) (h : DataW.Trod enc Try.prog W 0 (fun _ => true) true 36 v d p) :
    ∃ (r : Rp) (x : Value), v = .agg #[.int .i64 r.err, .int .i64 r.at_, x] ∧ TokS W x r.toks ∧ ∀ t ∈ r.toks, wfI t.2.2 := by
  obtain ⟨cs, rfl, hs⟩ := okWide_struct Try.underlying36 hv
  obtain ⟨fuel, hf⟩ := h
  have hf' : DataW.trod enc Try.prog W 0 (fun _ => true) true fuel 36 cs.toList = some (d, p) := by simpa [Value.cells] using hf
  obtain ⟨xs, n, _, _, hl, hlen, hg⟩ := DataW.trod_struct Try.underlying36 hf'
  rw [show Try.prog.cellsOf 36 = 3 from by kernel_rfl] at hl
  match xs, hlen, hcs : cs.toList, hl with
  | [y0, y1, y2], _, [c0, c1, c2], _ =>
    rw [hcs] at hg
    have e0 : DataW.trod enc Try.prog W 0 (fun _ => true) true n 27 ([c0, c1, c2].take (Try.prog.cellsOf 27)) = some y0 := hg 0 _ rfl
    have e1 : DataW.trod enc Try.prog W 0 (fun _ => true) true n 3 ([c1, c2].take (Try.prog.cellsOf 3)) = some y1 := hg 1 _ rfl
    have e2 : DataW.trod enc Try.prog W 0 (fun _ => true) true n 34 ([c2].take (Try.prog.cellsOf 34)) = some y2 := hg 2 _ rfl
    rw [show Try.prog.cellsOf 27 = 1 from by kernel_rfl] at e0
    rw [show Try.prog.cellsOf 3 = 1 from by kernel_rfl] at e1
    rw [show Try.prog.cellsOf 34 = 1 from by kernel_rfl] at e2
    obtain ⟨a, ea, _, _⟩ := DataW.trod_int Try.underlying27 e0
    obtain ⟨b, eb, _, _⟩ := DataW.trod_int Try.underlying3 e1
    obtain ⟨L, hL, hw⟩ := trod_tokens e2
    have ea : [c0] = [Value.int .i64 a] := ea
    have eb : [c1] = [Value.int .i64 b] := eb
    injection ea with ea; injection eb with eb
    refine ⟨⟨a, b, L⟩, c2, ?_, hL, hw⟩
    rw [← Array.toArray_toList (xs := cs), hcs, ea, eb]
end Go.Proofs.Ytgcjfjmnccajeaa
