/- A cell of the arena is set, and read. -/
import Derived.Test.YtgckncggcdmaaaaArFree
namespace Go.Proofs.Ytgckncggcdmaaaa
open Go.RowKit Go.Maps
set_option maxHeartbeats 1000000 in
set_option maxRecDepth 100000 in
theorem cell_no (A : Ar) (id i : Int) (hid : (Lit.int .i64 id).wf = true) (hf : findR A.rs id = none) (g c b : Nat) (mv : Value) (w : World) (hA : ArAt w g c b mv A) : Calls Try.prog 28 #[.pointer (some ⟨g, 0, none⟩), .int .i64 id, .int .i64 i] w fun e w' => e = .returned (.tuple #[.pointer none, .int .i64 7]) ∧ Below w.heap.size w w' := by
  have FC := Lib.hid (find_no A id hid hf g c b mv w hA)
  clear hf hA hid
  go_enter Try.func28, Try.ntmps28
  go_wp2_with fail
  refine FC.out.mono ?_
  rintro e w1 ⟨rfl, h1⟩
  have H1 := Lib.hid h1
  clear h1
  go_wp2_with fail
  go_ret2
  exact ⟨rfl, below_alloc H1.out _⟩
theorem cell_none (id i : Int) (w : World) : Calls Try.prog 28 #[.pointer none, .int .i64 id, .int .i64 i] w fun e w' => e = .returned (.tuple #[.pointer none, .int .i64 9]) ∧ Below w.heap.size w w' := by
  go_enter Try.func28, Try.ntmps28
  go_wp2_with fail
  refine (find_none id w).mono ?_
  rintro e w1 ⟨rfl, h1⟩
  have H1 := Lib.hid h1
  clear h1
  go_wp2_with fail
  go_ret2
  exact ⟨rfl, below_alloc H1.out _⟩
set_option maxHeartbeats 1000000 in
set_option maxRecDepth 100000 in
theorem cell_out (A : Ar) (id i : Int) (hid : (Lit.int .i64 id).wf = true) (r : Rg) (hf : findR A.rs id = some r) (hi : i < 0 ∨ (r.n : Int) ≤ i) (g c b : Nat) (mv : Value) (w : World) (hA : ArAt w g c b mv A) : Calls Try.prog 28 #[.pointer (some ⟨g, 0, none⟩), .int .i64 id, .int .i64 i] w fun e w' => e = .returned (.tuple #[.pointer none, .int .i64 2]) ∧ Below w.heap.size w w' := by
  have FC := Lib.hid (find_yes A id hid r hf g c b mv w hA)
  obtain ⟨ri, rb, rn⟩ := r
  simp only at hi FC
  clear hf hA hid
  by_cases h0 : i < 0
  · have t1 : decide (i < 0) = true := by simpa using h0
    clear hi
    go_enter Try.func28, Try.ntmps28
    go_wp2_with fail
    refine FC.out.mono ?_
    rintro e w1 ⟨rfl, h1⟩
    have H1 := Lib.hid h1
    clear h1
    go_wp2_with fail
    go_ret2
    exact ⟨rfl, below_alloc H1.out _⟩
  · have t1 : decide (i < 0) = false := by simpa using h0
    have t2 : decide ((rn : Int) ≤ i) = true := by simp; omega
    clear hi h0
    go_enter Try.func28, Try.ntmps28
    go_wp2_with fail
    refine FC.out.mono ?_
    rintro e w1 ⟨rfl, h1⟩
    have H1 := Lib.hid h1
    clear h1
    go_wp2_with fail
    go_ret2
    exact ⟨rfl, below_alloc H1.out _⟩
set_option maxHeartbeats 1000000 in
set_option maxRecDepth 100000 in
theorem cell_yes (A : Ar) (h : A.ok) (id : Int) (i : Nat) (hid : (Lit.int .i64 id).wf = true) (r : Rg) (hf : findR A.rs id = some r) (hi : i < r.n) (g c b : Nat) (mv : Value) (w : World) (hA : ArAt w g c b mv A) : Calls Try.prog 28 #[.pointer (some ⟨g, 0, none⟩), .int .i64 id, .int .i64 i] w fun e w' => e = .returned (.tuple #[.pointer (some ⟨c, r.b + i, none⟩), .int .i64 0]) ∧ Below w.heap.size w w' := by
  have FC := Lib.hid (find_yes A id hid r hf g c b mv w hA)
  have hre := h.each r (findR_some hf).1
  have hsz := h.size
  have HA := Lib.hid hA
  obtain ⟨ri, rb, rn⟩ := r
  simp only at hi FC hre ⊢
  clear hf hA hid h
  have t1 : decide ((i : Int) < 0) = false := by simp
  have t2 : decide (rn ≤ i) = false := by simp; omega
  go_enter Try.func28, Try.ntmps28
  go_wp2_with fail
  refine FC.out.mono ?_
  rintro e w1 ⟨rfl, h1⟩
  have H1 := Lib.hid h1
  have c1 := (HA.out.below h1).head.cell 1
  simp at c1
  have hgl := (HA.out.below h1).head.lt
  have t3 : ((rb + i : Nat) : Int) < (A.size : Nat) := by omega
  clear h1
  go_wp2_with fail
  go_quiet (fail)
  go_wp2_with fail
  go_ret2
  exact ⟨rfl, below_draws (below_alloc H1.out _) _⟩
/-- What a call on a cell tells. -/
def cellE (rs : List Rg) (id i : Int) : Int := match findR rs id with | none => 7 | some r => if 0 ≤ i ∧ i < r.n then 0 else 2
set_option maxHeartbeats 1000000 in
set_option maxRecDepth 100000 in
theorem cell_bad (A : Ar) (id i : Int) (hid : (Lit.int .i64 id).wf = true) (hb : cellE A.rs id i ≠ 0) (g c b : Nat) (mv : Value) (w : World) (hA : ArAt w g c b mv A) : Calls Try.prog 28 #[.pointer (some ⟨g, 0, none⟩), .int .i64 id, .int .i64 i] w fun e w' => e = .returned (.tuple #[.pointer none, .int .i64 (cellE A.rs id i)]) ∧ Below w.heap.size w w' := by
  unfold cellE at hb ⊢
  cases hf : findR A.rs id with
  | none => exact cell_no A id i hid hf g c b mv w hA
  | some r =>
    rw [hf] at hb
    simp only at hb ⊢
    by_cases h : 0 ≤ i ∧ i < r.n
    · rw [if_pos h] at hb; exact absurd rfl hb
    · rw [if_neg h]; exact cell_out A id i hid r hf (by omega) g c b mv w hA
set_option maxHeartbeats 1000000 in
set_option maxRecDepth 100000 in
theorem set_bad (A : Ar) (id i v : Int) (hid : (Lit.int .i64 id).wf = true) (hb : cellE A.rs id i ≠ 0) (g c b : Nat) (mv : Value) (w : World) (hA : ArAt w g c b mv A) : Calls Try.prog 12 #[.pointer (some ⟨g, 0, none⟩), .int .i64 id, .int .i64 i, .int .i64 v] w fun e w' => e = .returned (.int .i64 (cellE A.rs id i)) ∧ Below w.heap.size w w' := by
  have CC := Lib.hid (cell_bad A id i hid hb g c b mv w hA)
  have t1 : (cellE A.rs id i == 0) = false := by simpa using hb
  generalize cellE A.rs id i = k at *
  clear hb hA hid
  go_enter Try.func12, Try.ntmps12
  go_wp2_with fail
  refine CC.out.mono ?_
  rintro e w1 ⟨rfl, h1⟩
  have H1 := Lib.hid h1
  clear h1
  go_wp2_with fail
  go_ret
  exact ⟨rfl, H1.out⟩
theorem set_none (id i v : Int) (w : World) : Calls Try.prog 12 #[.pointer none, .int .i64 id, .int .i64 i, .int .i64 v] w fun e w' => e = .returned (.int .i64 9) ∧ Below w.heap.size w w' := by
  go_enter Try.func12, Try.ntmps12
  go_wp2_with fail
  refine (cell_none id i w).mono ?_
  rintro e w1 ⟨rfl, h1⟩
  have H1 := Lib.hid h1
  clear h1
  go_wp2_with fail
  go_ret
  exact ⟨rfl, H1.out⟩
set_option maxHeartbeats 1000000 in
set_option maxRecDepth 100000 in
theorem set_yes (A : Ar) (h : A.ok) (id : Int) (i : Nat) (v : Int) (hid : (Lit.int .i64 id).wf = true) (r : Rg) (hf : findR A.rs id = some r) (hi : i < r.n) (g c b : Nat) (mv : Value) (w : World) (hA : ArAt w g c b mv A) : Calls Try.prog 12 #[.pointer (some ⟨g, 0, none⟩), .int .i64 id, .int .i64 i, .int .i64 v] w fun e w' => e = .returned (.int .i64 0) ∧ ArAt w' g c b mv (A.set (r.b + i) v) ∧ Only [c] w w' := by
  have CC := Lib.hid (cell_yes A h id i hid r hf hi g c b mv w hA)
  have HA := Lib.hid hA
  have hre := h.each r (findR_some hf).1
  have hln := h.len
  obtain ⟨ri, rb, rn⟩ := r
  simp only at hi CC hre ⊢
  have e0 : A.cs[rb + i]? = some (A.cs[rb + i]'(by omega)) := List.getElem?_eq_getElem _
  generalize A.cs[rb + i] = old at e0
  clear hA hid h hf
  go_enter Try.func12, Try.ntmps12
  go_wp2_with fail
  refine CC.out.mono ?_
  rintro e w1 ⟨rfl, h1⟩
  have HW := Lib.hid (HA.out.below h1)
  have H1 := Lib.hid h1
  have c0 : w1.cell? ⟨c, rb + i, none⟩ = some (.int .i64 old) := by rw [HW.out.rows.cell]; simp [ints, e0]
  have f0 := HW.out.rows.free (rb + i)
  clear h1 e0
  go_wp2_with fail
  go_ret
  refine ⟨rfl, ⟨HW.out.head.far (p := ⟨c, rb + i, none⟩) HW.out.gc _, (HW.out.rows.set (rb + i) _).cast (ints_set _ _ _), HW.out.map.only (S := [c]) ((Only.refl _ _).set (.inl (by simp)) _) (by simpa using Ne.symm HW.out.cb), HW.out.gc, HW.out.gb, HW.out.cb⟩, ((Only.ofBelow [c] H1.out)).set (.inl (by simp)) _⟩
theorem get_bad (A : Ar) (id i : Int) (hid : (Lit.int .i64 id).wf = true) (hb : cellE A.rs id i ≠ 0) (g c b : Nat) (mv : Value) (w : World) (hA : ArAt w g c b mv A) : Calls Try.prog 16 #[.pointer (some ⟨g, 0, none⟩), .int .i64 id, .int .i64 i] w fun e w' => e = .returned (.tuple #[.int .i64 0, .int .i64 (cellE A.rs id i)]) ∧ Below w.heap.size w w' := by
  have CC := Lib.hid (cell_bad A id i hid hb g c b mv w hA)
  have t1 : (cellE A.rs id i != 0) = true := by simpa using hb
  generalize cellE A.rs id i = k at *
  clear hb hA hid
  go_enter Try.func16, Try.ntmps16
  go_wp2_with fail
  refine CC.out.mono ?_
  rintro e w1 ⟨rfl, h1⟩
  have H1 := Lib.hid h1
  clear h1
  go_wp2_with fail
  go_ret2
  exact ⟨rfl, H1.out⟩
theorem get_none (id i : Int) (w : World) : Calls Try.prog 16 #[.pointer none, .int .i64 id, .int .i64 i] w fun e w' => e = .returned (.tuple #[.int .i64 0, .int .i64 9]) ∧ Below w.heap.size w w' := by
  go_enter Try.func16, Try.ntmps16
  go_wp2_with fail
  refine (cell_none id i w).mono ?_
  rintro e w1 ⟨rfl, h1⟩
  have H1 := Lib.hid h1
  clear h1
  go_wp2_with fail
  go_ret2
  exact ⟨rfl, H1.out⟩
set_option maxHeartbeats 1000000 in
set_option maxRecDepth 100000 in
theorem get_yes (A : Ar) (h : A.ok) (id : Int) (i : Nat) (hid : (Lit.int .i64 id).wf = true) (r : Rg) (hf : findR A.rs id = some r) (hi : i < r.n) (v : Int) (hv : A.cs[r.b + i]? = some v) (g c b : Nat) (mv : Value) (w : World) (hA : ArAt w g c b mv A) : Calls Try.prog 16 #[.pointer (some ⟨g, 0, none⟩), .int .i64 id, .int .i64 i] w fun e w' => e = .returned (.tuple #[.int .i64 v, .int .i64 0]) ∧ Below w.heap.size w w' := by
  have CC := Lib.hid (cell_yes A h id i hid r hf hi g c b mv w hA)
  have HA := Lib.hid hA
  obtain ⟨ri, rb, rn⟩ := r
  simp only at hi CC hv
  clear hA hid h hf
  go_enter Try.func16, Try.ntmps16
  go_wp2_with fail
  refine CC.out.mono ?_
  rintro e w1 ⟨rfl, h1⟩
  have HW := Lib.hid (HA.out.below h1)
  have H1 := Lib.hid h1
  have c0 : w1.cell? ⟨c, rb + i, none⟩ = some (.int .i64 v) := by rw [HW.out.rows.cell]; simp [ints, hv]
  clear h1 hv
  go_wp2_with fail
  go_ret2
  exact ⟨rfl, H1.out⟩
end Go.Proofs.Ytgckncggcdmaaaa
