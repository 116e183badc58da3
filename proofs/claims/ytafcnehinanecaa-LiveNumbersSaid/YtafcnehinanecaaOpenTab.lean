/- An argument that is a table. -/
import Derived.Test.YtafcnehinanecaaOpenInts
import Derived.Test.YtafcnehinanecaaTabEq
import Derived.ChangeArms
import Derived.Deep.Slices
namespace Go.Proofs.Ytafcnehinanecaa
open Go.ChangeShapes Go.WideShapes Go.ChangeAt Go.RowKit Go.Deep
theorem trod_ints {H : Type} {enc : TypeId × Value → H} {W : World} {fuel : Nat} {v : Value} {x : DataW H × List MemPlace} (hf : DataW.trod enc Try.prog W 0 (fun _ => true) true fuel 24 [v] = some x) : ∃ L : List Int, IntsAt W 0 v L := by
  rcases open_ints Try.underlying24 Try.underlying3 (by kernel_rfl) hf with ⟨hcs, _⟩ | ⟨a, len', cap', zs, hcs, _, hl, hm, hz, _, hi, hwf⟩
  · injection hcs with hcs
    subst hcs
    exact ⟨[], IntsAt.zero _ _ _ _ (fun _ => rfl)⟩
  · injection hcs with hcs
    subst hcs
    simp at hz
    have hlen : (zs.take len').length = len' := by rw [List.length_take]; omega
    refine ⟨zs.take len', ⟨some a, cap', by rw [hlen], (fun e => by cases e), fun h0 => ?_⟩⟩
    rw [hlen] at h0
    have c0 := hi 0 (by omega)
    rw [add_zero'] at c0
    obtain ⟨hs, hb⟩ := cell_block c0
    obtain ⟨bb, oo, ss⟩ := a
    obtain rfl : ss = none := hs
    refine ⟨bb, oo, rfl, Nat.zero_le _, hb, fun i hi' => ?_⟩
    have h1 := hi i (by rw [hlen] at hi'; omega)
    rw [add_at] at h1
    rw [h1, List.getElem_take]
    simp [List.getD, List.getElem?_eq_getElem (show i < zs.length by rw [hlen] at hi'; omega)]
theorem trod_rows {H : Type} {enc : TypeId × Value → H} {W : World} {fuel : Nat} {v : Value} {x : DataW H × List MemPlace} (hf : DataW.trod enc Try.prog W 0 (fun _ => true) true fuel 23 [v] = some x) : ∃ L : List (List Int), RowsR W v L ∧ L.length ≤ 9223372036854775807 := by
  rcases open_slice Try.underlying23 hf with ⟨hcs, _⟩ | ⟨a, len, cap, m, n, D, Pl, hcs, _, hl, hm, hmm, hx, hi⟩
  · injection hcs with hcs
    subst hcs
    exact ⟨[], ⟨none, 0, rfl, fun h => absurd h (Nat.lt_irrefl 0)⟩, by simp⟩
  · injection hcs with hcs
    subst hcs
    rw [show Try.prog.cellsOf 24 = 1 from by kernel_rfl] at hi
    have hle : len ≤ m := by rw [hmm]; split <;> omega
    have key : ∀ i, i < len → ∃ (u : Value) (L : List Int), W.cell? (a.add i) = some u ∧ IntsAt W 0 u L := by
      intro i hil
      obtain ⟨cs', hc, ht'⟩ := hi i (by omega)
      obtain ⟨_, hcl, hat⟩ := World.cells?_some hc
      match cs', hcl with
      | [u], _ =>
        obtain ⟨L, hL⟩ := trod_ints ht'
        have h0 := hat 0 (by simp)
        rw [add_zero', Nat.mul_one] at h0
        exact ⟨u, L, h0, hL⟩
    obtain ⟨X, hX⟩ : ∃ X : Nat → List Int, ∀ i, i < len → ∃ u, W.cell? (a.add i) = some u ∧ IntsAt W 0 u (X i) :=
      ⟨fun i => if h : i < len then (key i h).choose_spec.choose else [], fun i hil => by
        simp only [dif_pos hil]
        exact ⟨_, (key i hil).choose_spec.choose_spec⟩⟩
    have hLl : ((List.range len).map X).length = len := by simp
    unfold maxLen at hm
    refine ⟨(List.range len).map X, ⟨some a, cap, by rw [hLl], fun h0 => ?_⟩, by rw [hLl]; omega⟩
    rw [hLl] at h0
    obtain ⟨u0, c0, _⟩ := hX 0 h0
    rw [add_zero'] at c0
    obtain ⟨hs, hb⟩ := cell_block c0
    obtain ⟨bb, oo, ss⟩ := a
    obtain rfl : ss = none := hs
    refine ⟨bb, oo, rfl, hb, fun i hi' => ?_⟩
    obtain ⟨u, c1, hu⟩ := hX i (by rw [hLl] at hi'; exact hi')
    rw [add_at] at c1
    refine ⟨u, c1, ?_⟩
    rw [List.getElem_map, List.getElem_range]; exact hu
theorem trod_remap {H : Type} {enc : TypeId × Value → H} {W : World} {base : Nat} {sp : Nat → Bool} {held : Bool} {fuel : Nat} {cs : List Value} {x : DataW H × List MemPlace} (hf : DataW.trod enc Try.prog W base sp held fuel 22 cs = some x) :
    ∃ m : List Nat, m.length = 256 ∧ (∀ n ∈ m, n < 256) ∧ cs = m.map fun n => Value.int .u8 (n : Nat) := by
  obtain ⟨xs, n, _, _, hl, _, hi⟩ := DataW.trod_array Try.underlying22 hf
  rw [show Try.prog.cellsOf 22 = 256 from by kernel_rfl] at hl
  rw [show Try.prog.cellsOf 5 = 1 from by kernel_rfl] at hi
  rename_i hxl
  have key : ∀ i (h : i < cs.length), ∃ k : Nat, k < 256 ∧ cs[i] = Value.int .u8 (k : Nat) := fun i h => by
    have h1 := hi i (by omega)
    rw [List.getElem?_eq_getElem (by omega), Nat.mul_one, List.drop_eq_getElem_cons h, List.take_succ_cons, List.take_zero] at h1
    obtain ⟨a, e, _, wf⟩ := DataW.trod_int Try.underlying5 h1
    injection e with e
    simp only [Lit.wf] at wf
    rw [show IntKind.u8.min = 0 from by decide, show IntKind.u8.max = 255 from by decide, Bool.and_eq_true, decide_eq_true_iff, decide_eq_true_iff] at wf
    exact ⟨a.toNat, by omega, by rw [e, Int.toNat_of_nonneg wf.1]⟩
  obtain ⟨X, hX⟩ : ∃ X : Nat → Nat, ∀ i (h : i < cs.length), X i < 256 ∧ cs[i] = Value.int .u8 (X i : Nat) :=
    ⟨fun i => if h : i < cs.length then (key i h).choose else 0, fun i h => by simp only [dif_pos h]; exact (key i h).choose_spec⟩
  refine ⟨(List.range 256).map X, by simp, fun n hn => ?_, ?_⟩
  · obtain ⟨i, hi2, rfl⟩ := List.mem_map.1 hn
    exact (hX i (by have := List.mem_range.1 hi2; omega)).1
  · refine List.ext_getElem (by simp; omega) fun i h1 h2 => ?_
    rw [(hX i h1).2, List.getElem_map, List.getElem_map, List.getElem_range]
set_option maxRecDepth 100000 in
/-- The table of an argument. -/
theorem open_tab {H : Type} {enc : TypeId × Value → H} {W : World} {r : Reach} {b0 : Nat} {v : Value} {d : DataW H} {p : List MemPlace}
    (hv : Value.okWide Try.prog W r b0 26 v) (h : DataW.Trod enc Try.prog W 0 (fun _ => true) true 26 v d p) : ∃ (tv : Array Value) (T : Tb), v = .agg tv ∧ TbR W tv T ∧ T.next.length ≤ 9223372036854775807 := by
  obtain ⟨cs, rfl, _⟩ := okWide_struct Try.underlying26 hv
  obtain ⟨fuel, hf⟩ := h
  have hf' : DataW.trod enc Try.prog W 0 (fun _ => true) true fuel 26 cs.toList = some (d, p) := by simpa [Value.cells] using hf
  obtain ⟨xs, n, _, _, hl, hlen, hx⟩ := DataW.trod_struct Try.underlying26 hf'
  rw [show Try.prog.cellsOf 26 = 260 from by kernel_rfl] at hl
  match xs, hlen with
  | [y0, y1, y2, y3, y4], _ =>
    have e0 : DataW.trod enc Try.prog W 0 (fun _ => true) true n 3 ((cs.toList.drop 0).take (Try.prog.cellsOf 3)) = some y0 := hx 0 _ rfl
    have e1 : DataW.trod enc Try.prog W 0 (fun _ => true) true n 3 ((cs.toList.drop 1).take (Try.prog.cellsOf 3)) = some y1 := hx 1 _ rfl
    have e2 : DataW.trod enc Try.prog W 0 (fun _ => true) true n 22 ((cs.toList.drop 2).take (Try.prog.cellsOf 22)) = some y2 := hx 2 _ rfl
    have e3 : DataW.trod enc Try.prog W 0 (fun _ => true) true n 23 ((cs.toList.drop 258).take (Try.prog.cellsOf 23)) = some y3 := hx 3 _ rfl
    have e4 : DataW.trod enc Try.prog W 0 (fun _ => true) true n 24 ((cs.toList.drop 259).take (Try.prog.cellsOf 24)) = some y4 := hx 4 _ rfl
    rw [show Try.prog.cellsOf 3 = 1 from by kernel_rfl] at e0 e1
    rw [show Try.prog.cellsOf 22 = 256 from by kernel_rfl] at e2
    rw [show Try.prog.cellsOf 23 = 1 from by kernel_rfl] at e3
    rw [show Try.prog.cellsOf 24 = 1 from by kernel_rfl] at e4
    have one : ∀ k, k < 260 → ∃ u, (cs.toList.drop k).take 1 = [u] := fun k hk => ⟨cs.toList[k]'(by omega), by rw [List.drop_eq_getElem_cons (by omega), List.take_succ_cons, List.take_zero]⟩
    obtain ⟨u0, q0⟩ := one 0 (by omega)
    obtain ⟨u1, q1⟩ := one 1 (by omega)
    obtain ⟨u3, q3⟩ := one 258 (by omega)
    obtain ⟨u4, q4⟩ := one 259 (by omega)
    rw [q0] at e0
    rw [q1] at e1
    rw [q3] at e3
    rw [q4] at e4
    obtain ⟨c, ec, _, _⟩ := DataW.trod_int Try.underlying3 e0
    obtain ⟨s, es, _, _⟩ := DataW.trod_int Try.underlying3 e1
    obtain ⟨m, m1, m2, m3⟩ := trod_remap e2
    obtain ⟨rows, hr, hrl⟩ := trod_rows e3
    obtain ⟨tags, ht⟩ := trod_ints e4
    injection ec with ec
    injection es with es
    refine ⟨cs, ⟨c, s, m, rows, tags⟩, rfl, ⟨m1, m2, u3, u4, ?_, hr, ht⟩, hrl⟩
    unfold tbCs
    apply Array.ext'
    show cs.toList = [Value.int .i64 c, Value.int .i64 s] ++ ((m.map fun n => Value.int .u8 (n : Nat)) ++ [u3, u4])
    have a1 : cs.toList = (cs.toList.drop 0).take 1 ++ cs.toList.drop 1 := by rw [List.drop_zero, List.take_append_drop]
    have a2 : cs.toList.drop 1 = (cs.toList.drop 1).take 1 ++ cs.toList.drop 2 := by
      have := (List.take_append_drop 1 (cs.toList.drop 1)).symm
      rwa [List.drop_drop] at this
    have a3 : cs.toList.drop 2 = (cs.toList.drop 2).take 256 ++ cs.toList.drop 258 := by
      have := (List.take_append_drop 256 (cs.toList.drop 2)).symm
      rwa [List.drop_drop] at this
    have a4 : cs.toList.drop 258 = (cs.toList.drop 258).take 1 ++ cs.toList.drop 259 := by
      have := (List.take_append_drop 1 (cs.toList.drop 258)).symm
      rwa [List.drop_drop] at this
    have a5 : cs.toList.drop 259 = (cs.toList.drop 259).take 1 := (List.take_of_length_le (by rw [List.length_drop]; omega)).symm
    rw [q0] at a1; rw [q1] at a2; rw [q3] at a4; rw [q4] at a5
    rw [a1, a2, a3, a4, a5, m3, ec, es]
    simp
end Go.Proofs.Ytafcnehinanecaa
