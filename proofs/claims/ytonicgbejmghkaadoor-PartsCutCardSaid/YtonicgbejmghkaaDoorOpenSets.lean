/- An argument that is a row of sets. -/
import Derived.Test.YtonicgbejmghkaaDoorCard04
import Derived.Test.YtonicgbejmghkaaDoorPtCut
import Derived.ChangeSlices
namespace Go.Proofs.YtonicgbejmghkaaDoor
open Go.ChangeShapes Go.WideShapes Go.ChangeAt Go.WideMaps Go.WideElems Go.RowKit Go.Deep
theorem trod_set4 {H : Type} {enc : TypeId × Value → H} {W : World} {base : Nat} {sp : Nat → Bool} {held : Bool} {fuel : Nat} {cs : List Value} {x : DataW H × List MemPlace} (h4 : cs.length = 4) (hf : DataW.trod enc Tryd.prog W base sp held fuel 35 cs = some x) :
    ∃ S : Nat → Nat, okS S ∧ cs = [.int .u64 (S 0), .int .u64 (S 1), .int .u64 (S 2), .int .u64 (S 3)] := by
  match cs, h4 with
  | [c0, c1, c2, c3], _ =>
    obtain ⟨y0, y1, y2, y3, n, _, t0, t1, t2, t3⟩ := trod_array4 Tryd.underlying35 cells_w64 hf
    obtain ⟨a0, e0, _, w0⟩ := DataW.trod_int Tryd.underlying33 t0
    obtain ⟨a1, e1, _, w1⟩ := DataW.trod_int Tryd.underlying33 t1
    obtain ⟨a2, e2, _, w2⟩ := DataW.trod_int Tryd.underlying33 t2
    obtain ⟨a3, e3, _, w3⟩ := DataW.trod_int Tryd.underlying33 t3
    simp only [List.cons.injEq, and_true] at e0 e1 e2 e3
    subst e0 e1 e2 e3
    have b : ∀ {a : Int}, (Lit.int .u64 a).wf = true → 0 ≤ a ∧ a < 18446744073709551616 := fun {a} h => by
      simp only [Lit.wf] at h
      rw [show IntKind.u64.min = 0 from by decide, show IntKind.u64.max = 18446744073709551615 from by decide, Bool.and_eq_true, decide_eq_true_iff, decide_eq_true_iff] at h
      omega
    have b0 := b w0
    have b1 := b w1
    have b2 := b w2
    have b3 := b w3
    refine ⟨fun i => if i = 0 then a0.toNat else if i = 1 then a1.toNat else if i = 2 then a2.toNat else a3.toNat, fun i => ?_, ?_⟩
    · show (if i = 0 then _ else _) < _
      (repeat' split) <;> omega
    · simp [Int.toNat_of_nonneg b0.1, Int.toNat_of_nonneg b1.1, Int.toNat_of_nonneg b2.1, Int.toNat_of_nonneg b3.1]
def w4 (W : World) (a : Addr) (i : Nat) (S : Nat → Nat) : Prop := W.cell? (a.add (i * 4 + 0)) = some (.int .u64 (S 0)) ∧ W.cell? (a.add (i * 4 + 1)) = some (.int .u64 (S 1)) ∧ W.cell? (a.add (i * 4 + 2)) = some (.int .u64 (S 2)) ∧ W.cell? (a.add (i * 4 + 3)) = some (.int .u64 (S 3))
theorem trod_sets {H : Type} {enc : TypeId × Value → H} {W : World} {fuel : Nat} {v : Value} {x : DataW H × List MemPlace} (hf : DataW.trod enc Tryd.prog W 0 (fun _ => true) true fuel 22 [v] = some x) :
    ∃ L : List (Nat → Nat), SetsR W v L ∧ (∀ S ∈ L, okS S) ∧ (v = .slice none 0 0 ∨ ∃ a n c, v = .slice (some a) n c) := by
  rcases open_slice Tryd.underlying22 hf with ⟨hcs, _⟩ | ⟨a, len, cap, m, n, D, Pl, hcs, _, hl, hm, hmm, hx, hi⟩
  · injection hcs with hcs
    subst hcs
    exact ⟨[], ⟨none, 0, rfl, fun h => absurd h (by simp)⟩, by simp, .inl rfl⟩
  · injection hcs with hcs
    subst hcs
    rw [show Tryd.prog.cellsOf 35 = 4 from by kernel_rfl] at hi
    have hle : len ≤ m := by rw [hmm]; split <;> omega
    have key : ∀ i, i < len → ∃ x : Nat → Nat, w4 W a i x ∧ okS x := by
      intro i hil
      obtain ⟨cs', hc, ht'⟩ := hi i (by omega)
      obtain ⟨_, hcl, hat⟩ := World.cells?_some hc
      obtain ⟨S, hS, rfl⟩ := trod_set4 (by first | exact hcl | exact hcl.symm | omega) ht'
      refine ⟨S, ?_, hS⟩
      have h0 := hat 0 (by simp)
      have h1 := hat 1 (by simp)
      have h2 := hat 2 (by simp)
      have h3 := hat 3 (by simp)
      rw [Go.Deep.add_add] at h0 h1 h2 h3
      exact ⟨h0, h1, h2, h3⟩
    obtain ⟨X, hX⟩ : ∃ X : Nat → Nat → Nat, ∀ i, i < len → w4 W a i (X i) ∧ okS (X i) :=
      ⟨fun i => if h : i < len then (key i h).choose else fun _ => 0, fun i hil => by simp only [dif_pos hil]; exact (key i hil).choose_spec⟩
    have hLl : ((List.range len).map X).length = len := by simp
    refine ⟨(List.range len).map X, ⟨some a, cap, by rw [hLl], fun h0 => ?_⟩, fun x hx => ?_, .inr ⟨_, _, _, rfl⟩⟩
    · rw [hLl] at h0
      have c0 := (hX 0 h0).1.1
      have hs : a.spot = none ∧ a.block < W.heap.size := by
        have : a.add (0 * 4 + 0) = a := by simp [Addr.add]
        rw [this] at c0
        unfold World.cell? at c0
        cases hh : W.heap[a.block]? with
        | none => rw [hh] at c0; cases c0
        | some o =>
          refine ⟨?_, (Array.getElem?_eq_some_iff.1 hh).1⟩
          rw [hh] at c0
          cases o <;> first | (cases c0; done) | skip
          cases hsp : a.spot with
          | none => rfl
          | some q => simp [hsp] at c0
      obtain ⟨bb, oo, ss⟩ := a
      obtain ⟨rfl, hb⟩ := hs
      have ea : ∀ n, (⟨bb, oo, none⟩ : Addr).add n = ⟨bb, oo + n, none⟩ := by
        intro n; unfold Addr.add; split
        · rename_i h; rw [h]; rfl
        · rfl
      refine ⟨bb, oo, rfl, hb, fun i hi' => ?_⟩
      have hil : i < len := by rw [hLl] at hi'; exact hi'
      have e : ((List.range len).map X)[i] = X i := by simp
      obtain ⟨q0, q1, q2, q3⟩ := (hX i hil).1
      rw [ea] at q0 q1 q2 q3
      rw [e]
      exact ⟨q0, by rw [Nat.add_assoc]; exact q1, by rw [Nat.add_assoc]; exact q2, by rw [Nat.add_assoc]; exact q3⟩
    · obtain ⟨i, hi', rfl⟩ := List.mem_map.1 hx
      exact (hX i (by simpa using hi')).2
theorem open_sets {H : Type} {enc : TypeId × Value → H} {W : World} {r : Reach} {b0 : Nat} {v : Value} {d : DataW H} {p : List MemPlace} (hv : Value.okWide Tryd.prog W r b0 22 v) (h : DataW.Trod enc Tryd.prog W 0 (fun _ => true) true 22 v d p) : ∃ L : List (Nat → Nat), SetsR W v L ∧ (∀ S ∈ L, okS S) ∧ (v = .slice none 0 0 ∨ ∃ a n c, v = .slice (some a) n c) := by
  obtain ⟨A, len, cap, rfl⟩ := okWide_slice Tryd.underlying22 hv
  obtain ⟨fuel, hf⟩ := h
  exact trod_sets (by simpa [Value.cells] using hf)
end Go.Proofs.YtonicgbejmghkaaDoor
