/- An argument that is a slice of lines. -/
import Derived.Test.YtokfcndhmbkelaaRuLines
import Derived.Test.YtokfcndhmbkelaaSize
import Derived.ChangeArms
namespace Go.Proofs.Ytokfcndhmbkelaa
open Go.ChangeShapes Go.WideShapes Go.ChangeAt Go.RowKit Go.Deep
/-- A line's cells. -/
def w3 (W : World) (a : Addr) (i : Nat) (x : Ln) : Prop := W.cell? (a.add (i * 3 + 0)) = some (str x.name) ∧ W.cell? (a.add (i * 3 + 1)) = some (str x.text) ∧ W.cell? (a.add (i * 3 + 2)) = some (.int .i64 x.at_)
theorem weightsAll_mem {H : Type} {P : Program} {e : TypeId} {n : Nat} {d : DataW H} : ∀ {l : List (DataW H)}, d ∈ l → n ∈ d.weights P e → n ∈ DataW.weightsAll P e l
  | [], h, _ => by cases h
  | x :: l, h, hn => by
    unfold DataW.weightsAll
    rcases List.mem_cons.1 h with rfl | h
    · exact List.mem_append.2 (.inl hn)
    · exact List.mem_append.2 (.inr (weightsAll_mem h hn))
theorem trod_line {H : Type} {enc : TypeId × Value → H} {w : World} {base : Nat} {spare : Nat → Bool} {held : Bool} {fuel : Nat} {cs : List Value} {x : DataW H × List MemPlace} (h : DataW.trod enc Try.prog w base spare held fuel 31 cs = some x) :
    ∃ (a b : List UInt8) (z : Int), cs = [str a, str b, .int .i64 z] ∧ x.1 = .agg [.lit (.string a), .lit (.string b), .lit (.int .i64 z)] := by
  obtain ⟨xs, n, _, rfl, hl, hlen, hf⟩ := DataW.trod_struct Try.underlying31 h
  rw [show Try.prog.cellsOf 31 = 3 from by kernel_rfl] at hl
  match xs, hlen, cs, hl with
  | [y0, y1, y2], _, [c0, c1, c2], _ =>
    have h0 := hf 0 _ rfl
    have h1 := hf 1 _ rfl
    have h2 := hf 2 _ rfl
    have e0 : DataW.trod enc Try.prog w base spare held n 9 ([c0, c1, c2].take (Try.prog.cellsOf 9)) = some y0 := h0
    have e1 : DataW.trod enc Try.prog w base spare held n 9 ([c1, c2].take (Try.prog.cellsOf 9)) = some y1 := h1
    have e2 : DataW.trod enc Try.prog w base spare held n 3 ([c2].take (Try.prog.cellsOf 3)) = some y2 := h2
    rw [show Try.prog.cellsOf 9 = 1 from by kernel_rfl] at e0 e1
    rw [show Try.prog.cellsOf 3 = 1 from by kernel_rfl] at e2
    obtain ⟨a, ea, rfl, _⟩ := DataW.trod_string Try.underlying9 e0
    obtain ⟨b, eb, rfl, _⟩ := DataW.trod_string Try.underlying9 e1
    obtain ⟨z, ez, rfl, _⟩ := DataW.trod_int Try.underlying3 e2
    refine ⟨a.data.toList, b.data.toList, z, ?_, rfl⟩
    have ea : [c0] = [Value.string a] := ea
    have eb : [c1] = [Value.string b] := eb
    have ez : [c2] = [Value.int .i64 z] := ez
    injection ea with ea; injection eb with eb; injection ez with ez
    rw [ea, eb, ez]
    unfold str
    rw [Array.toArray_toList, Array.toArray_toList]
theorem line_weights {H : Type} (a b : List UInt8) (z : Int) (n : Nat) (h : n = a.length ∨ n = b.length) : n ∈ DataW.weights (H := H) Try.prog 31 (.agg [.lit (.string a), .lit (.string b), .lit (.int .i64 z)]) := by
  simp only [DataW.weights, Try.underlying31]
  simp only [List.map_cons, List.map_nil, DataW.weightsEach, DataW.weights]
  rcases h with rfl | rfl <;> simp
/-- The lines of an argument; none is longer than what may lie in memory. -/
theorem open_lines {H : Type} {enc : TypeId × Value → H} {W : World} {r : Reach} {b0 : Nat} {v : Value} {d : DataW H} {p : List MemPlace} {ts : List TypeId} {ds : List (DataW H)} {j : Nat}
    (hv : Value.okWide Try.prog W r b0 23 v) (h : DataW.Trod enc Try.prog W 0 (fun _ => true) true 23 v d p)
    (hsz : (DataW.weightsEach Try.prog ts ds).all (· ≤ reachBytes) = true) (htj : ts[j]? = some 23) (hdj : ds[j]? = some d) :
    ∃ L : List Ln, LinesAt W 0 v L ∧ L.length * 40 ≤ 140737488351232 ∧ ∀ x ∈ L, x.name.length ≤ 140737488351232 ∧ x.text.length ≤ 140737488351232 := by
  obtain ⟨A, len, cap, rfl⟩ := okWide_slice Try.underlying23 hv
  have hlen := rows_size hsz htj hdj Try.underlying23 h
  rw [show Try.prog.bytesOf 31 = 40 from by kernel_rfl] at hlen
  have hr : reachBytes = 140737488351232 := by decide
  obtain ⟨fuel, hf⟩ := h
  rcases open_slice Try.underlying23 hf with ⟨hcs, _⟩ | ⟨a, len', cap', m, n, D, Pl, hcs, _, hl, hm, hmm, hx, hi⟩
  · simp [Value.cells] at hcs
    obtain ⟨rfl, rfl, rfl⟩ := hcs
    exact ⟨[], LinesAt.nil _ _, by simp, by simp⟩
  · simp [Value.cells] at hcs
    obtain ⟨rfl, rfl, rfl⟩ := hcs
    rw [show Try.prog.cellsOf 31 = 3 from by kernel_rfl] at hi
    have hle : len ≤ m := by rw [hmm]; split <;> omega
    have hd : d = .slice ((List.range len).map D) ((List.range (m - len)).map fun j => D (len + j)) := (Prod.mk.inj hx).1
    have key : ∀ i, i < len → ∃ x : Ln, w3 W a i x ∧ x.name.length ≤ 140737488351232 ∧ x.text.length ≤ 140737488351232 := by
      intro i hil
      obtain ⟨cs', hc, ht'⟩ := hi i (by omega)
      obtain ⟨n1, t1, z, rfl, hD⟩ := trod_line ht'
      obtain ⟨_, _, hat⟩ := World.cells?_some hc
      have hw : ∀ k, (k = n1.length ∨ k = t1.length) → k ≤ 140737488351232 := fun k hk => by
        have hm1 : D i ∈ (List.range len).map D := List.mem_map.2 ⟨i, List.mem_range.2 hil, rfl⟩
        have hD' : D i = .agg [.lit (.string n1), .lit (.string t1), .lit (.int .i64 z)] := hD
        have hwk := weightsAll_mem (P := Try.prog) (e := 31) hm1 (by rw [hD']; exact line_weights n1 t1 z k hk)
        have := List.all_eq_true.1 hsz _ (DataW.weights_mem_each htj hdj k (by
          rw [hd]; simp only [DataW.weights, Try.underlying23]
          exact List.mem_cons_of_mem _ (List.mem_append.2 (.inl hwk))))
        rw [hr] at this
        simpa using this
      refine ⟨⟨n1, t1, z⟩, ?_, hw _ (.inl rfl), hw _ (.inr rfl)⟩
      have h0 := hat 0 (by simp)
      have h1 := hat 1 (by simp)
      have h2 := hat 2 (by simp)
      rw [Go.Deep.add_add] at h0 h1 h2
      exact ⟨h0, h1, h2⟩
    obtain ⟨X, hX⟩ : ∃ X : Nat → Ln, ∀ i, i < len → w3 W a i (X i) ∧ (X i).name.length ≤ 140737488351232 ∧ (X i).text.length ≤ 140737488351232 :=
      ⟨fun i => if h : i < len then (key i h).choose else ⟨[], [], 0⟩, fun i hil => by simp only [dif_pos hil]; exact (key i hil).choose_spec⟩
    have hLl : ((List.range len).map X).length = len := by simp
    refine ⟨(List.range len).map X, ⟨some a, cap, by rw [hLl], ⟨(fun e => by cases e), by rw [hLl]; exact hl⟩, fun h0 => ?_⟩, by rw [hLl]; omega, fun x hx => ?_⟩
    · rw [hLl] at h0
      have c0 := (hX 0 h0).1.1
      have hs : a.spot = none ∧ a.block < W.heap.size := by
        have : a.add (0 * 3 + 0) = a := by simp [Addr.add]
        rw [this] at c0
        unfold World.cell? at c0
        cases hh : W.heap[a.block]? with
        | none => rw [hh] at c0; cases c0
        | some o =>
          refine ⟨?_, (Array.getElem?_eq_some_iff.1 hh).1⟩
          rw [hh] at c0
          cases o <;> first | (cases c0; done) | skip
          cases hsp : a.spot with
          | none => rfl
          | some q => simp [hsp] at c0
      obtain ⟨bb, oo, ss⟩ := a
      obtain ⟨rfl, hb⟩ := hs
      have hadd : ∀ i, (⟨bb, oo, none⟩ : Addr).add i = ⟨bb, oo + i, none⟩ := fun i => by
        unfold Addr.add; split
        · rename_i h; rw [h]; rfl
        · rfl
      refine ⟨bb, oo, rfl, Nat.zero_le _, hb, fun i hi' => ?_⟩
      obtain ⟨h1, h2, h3⟩ := (hX i (by rw [hLl] at hi'; exact hi')).1
      rw [hadd] at h1 h2 h3
      rw [List.getElem_map, List.getElem_range]
      exact ⟨h1, h2, h3⟩
    · obtain ⟨i, hi', rfl⟩ := List.mem_map.1 hx
      exact (hX i (List.mem_range.1 hi')).2
end Go.Proofs.Ytokfcndhmbkelaa
