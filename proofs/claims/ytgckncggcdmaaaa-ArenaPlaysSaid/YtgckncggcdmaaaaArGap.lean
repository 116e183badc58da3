/- Where there is room in the arena; a region found. -/
import Derived.Test.YtgckncggcdmaaaaArWalk
import Derived.Handy
namespace Go.Proofs.Ytgckncggcdmaaaa
open Go.RowKit
def GapV (rs : List Rg) (at_ size n : Nat) : Int := match gapL rs at_ size n with | some b => (b : Int) | none => -1
theorem rgCs_get (l : List (Int × Int)) (k : Nat) (h : k < l.length) : (rgCs l)[k * 2]? = some (.int .i64 (l[k]).1) ∧ (rgCs l)[k * 2 + 1]? = some (.int .i64 (l[k]).2) := by
  induction l generalizing k with
  | nil => simp at h
  | cons x t ih =>
    cases k with
    | zero => exact ⟨rfl, rfl⟩
    | succ k =>
      have := ih k (by simpa using h)
      rw [show (k + 1) * 2 = k * 2 + 2 by omega]
      exact this
/-- The cells of a row of regions. -/
theorem rgs_cells {w : World} {base : Nat} {v : Value} {l : List (Int × Int)} (h : w.ownsRow base 62 2 v l.length (rgCs l)) : ∃ (ao : Option Addr) (cap : Nat), v = .slice ao l.length cap ∧ (0 < l.length → ∃ gb, ao = some ⟨gb, 0, none⟩ ∧ base ≤ gb ∧ gb < w.heap.size ∧ ∀ k, (hk : k < l.length) → w.cell? ⟨gb, k * 2, none⟩ = some (.int .i64 (l[k]).1) ∧ w.cell? ⟨gb, k * 2 + 1, none⟩ = some (.int .i64 (l[k]).2)) := by
  rcases h.2 with ⟨hv, h0⟩ | ⟨g, cap, cur, hv, hg, hh, h1, h2, h3, h4⟩
  · exact ⟨none, 0, by rw [hv, h0], fun h => by omega⟩
  · refine ⟨_, cap, hv, fun _ => ⟨g, rfl, hg, (Array.getElem?_eq_some_iff.1 hh).1, fun k hk => ?_⟩⟩
    obtain ⟨a1, a2⟩ := rgCs_get l k hk
    have hB : Blk w g 62 cur := hh
    rw [hB.cell, hB.cell]
    have e : ∀ j, j < l.length * 2 → cur[j]? = (rgCs l)[j]? := fun j hj => by
      rw [← h4, List.getElem?_take_of_lt hj, Array.getElem?_toList]
    rw [e _ (by omega), e _ (by omega)]
    exact ⟨a1, a2⟩
theorem prs_get {rs : List Rg} {k : Nat} (h : k < rs.length) : (prs rs)[k]'(by rw [prs_len]; exact h) = ((rs[k].b : Int), (rs[k].n : Int)) := by unfold prs; simp
set_option maxHeartbeats 1000000 in
set_option maxRecDepth 100000 in
theorem gap_c (A : Ar) (h : A.ok) (n : Nat) (g c b : Nat) (mv : Value) (w : World) (hA : ArAt w g c b mv A) : Calls Try.prog 26 #[.pointer (some ⟨g, 0, none⟩), .int .i64 n] w fun e w' => e = .returned (.int .i64 (GapV A.rs 0 A.size n)) ∧ Below w.heap.size w w' := by
  have RC := Lib.hid (rows_c A h g c b mv w hA)
  have HA := Lib.hid hA
  have H := Lib.hid h
  have hsz := h.size
  have PL := Lib.hid (prs_len A.rs)
  clear h hA
  go_enter Try.func26, Try.ntmps26
  go_wp2_with fail
  refine RC.out.mono ?_
  rintro e w1 ⟨v, rfl, h1, h2⟩
  obtain ⟨ao, cap, rfl, hc⟩ := rgs_cells h1
  have HC := Lib.hid hc
  rw [PL.out]
  have H2 := Lib.hid h2
  have hlen : A.rs.length ≤ 1048576 := Nat.le_trans (len_rs H.out) hsz
  have s2 := h2.size
  clear h1 h2 hc
  go_wp2_with fail
  go_loopw [5, 11] (fun a i wr => ∃ (k at_ : Nat), k ≤ A.rs.length ∧ at_ ≤ A.size ∧ i = .int .i64 k ∧ a = .int .i64 at_ ∧ GapV A.rs 0 A.size n = GapV (A.rs.drop k) at_ A.size n ∧ Below w1.heap.size w1 wr) (fun _ i _ => A.rs.length - (intOf i).toNat)
  case atStart => exact ⟨0, 0, by omega, by omega, rfl, rfl, rfl, Below.refl _ _⟩
  case round =>
    obtain ⟨k, at_, hk, hat, rfl, rfl, hG, hB⟩ := hrel
    have HG := Lib.hid hG
    have HB := Lib.hid hB
    have sB := hB.size
    clear hG hB
    by_cases hlt : k < A.rs.length
    · obtain ⟨gb, rfl, hb1, hb2, hcell⟩ := HC.out (by rw [PL.out]; omega)
      obtain ⟨a1, a2⟩ := hcell k (by rw [PL.out]; exact hlt)
      rw [prs_get hlt] at a1 a2
      have c0 := ((bcell HB.out).1 gb (k * 2) hb2).trans a1
      have c1 := ((bcell HB.out).1 gb (k * 2 + 1) hb2).trans a2
      have hr := H.out.each A.rs[k] (List.getElem_mem hlt)
      have HD := Lib.hid (show A.rs.drop k = A.rs[k] :: A.rs.drop (k + 1) from List.drop_eq_getElem_cons hlt)
      generalize A.rs[k] = r at a1 a2 c0 c1 hr HD
      obtain ⟨id, rb, rn⟩ := r
      simp only at c0 c1 hr
      have t0 : decide (k < A.rs.length) = true := by simp; omega
      have t2 : (k : Int) < (A.rs.length : Nat) := by omega
      clear hcell a1 a2
      by_cases hy : at_ + n ≤ rb
      · have t4 : decide ((n : Int) ≤ (rb : Int) - at_) = true := by simp; omega
        have HR := Lib.hid (show GapV (A.rs.drop k) at_ A.size n = at_ by rw [HD.out]; unfold GapV gapL; rw [if_pos hy])
        clear hy
        go_wp2_with fail
        go_ret
        exact ⟨ret_int (by rw [HG.out, HR.out]), below_alloc (below_step H2.out HB.out) _⟩
      · have t4 : decide ((n : Int) ≤ (rb : Int) - at_) = false := by simp; omega
        have HR := Lib.hid (show GapV (A.rs.drop k) at_ A.size n = GapV (A.rs.drop (k + 1)) (rb + rn) A.size n by rw [HD.out]; unfold GapV; rw [gapL, if_neg hy])
        clear hy
        go_wp2_with fail
        go_roundw
        case rel => exact ⟨k + 1, rb + rn, by omega, by omega, by go_num, by go_num, by rw [HG.out, HR.out], below_alloc HB.out _⟩
        case measure => simp [intOf]; omega
    · have e : k = A.rs.length := by omega
      subst e
      have hd := HG.out
      rw [List.drop_length] at hd
      have HQ := Lib.hid hd
      have cA := (HA.out.below H2.out).below HB.out
      have c1 := cA.head.cell 1
      simp at c1
      clear hd cA
      have t0 : ¬ A.rs.length < A.rs.length := by omega
      by_cases hy : at_ + n ≤ A.size
      · have t4 : decide ((n : Int) ≤ (A.size : Int) - at_) = true := by simp; omega
        have HR := Lib.hid (show GapV [] at_ A.size n = at_ by unfold GapV gapL; rw [if_pos hy])
        clear hy
        go_wp2_with fail
        go_ret
        exact ⟨ret_int (by rw [HQ.out, HR.out]), below_step H2.out HB.out⟩
      · have t4 : decide ((n : Int) ≤ (A.size : Int) - at_) = false := by simp; omega
        have HR := Lib.hid (show GapV [] at_ A.size n = -1 by unfold GapV gapL; rw [if_neg hy])
        clear hy
        go_wp2_with fail
        go_ret
        exact ⟨ret_int (by rw [HQ.out, HR.out]), below_step H2.out HB.out⟩
/-- What find tells. -/
def foundV (rs : List Rg) (id : Int) : Value := match findR rs id with | some r => .tuple #[encRg (r.b, r.n), .int .i64 0] | none => .tuple #[encRg (0, 0), .int .i64 7]
set_option maxHeartbeats 1000000 in
set_option maxRecDepth 100000 in
theorem find_no (A : Ar) (id : Int) (hid : (Lit.int .i64 id).wf = true) (hf : findR A.rs id = none) (g c b : Nat) (mv : Value) (w : World) (hA : ArAt w g c b mv A) : Calls Try.prog 29 #[.pointer (some ⟨g, 0, none⟩), .int .i64 id] w fun e w' => e = .returned (.tuple #[.agg #[.int .i64 0, .int .i64 0], .int .i64 7]) ∧ Below w.heap.size w w' := by
  have c2 := hA.head.cell 2
  simp at c2
  have hgl := hA.head.lt
  have HL := Lib.hid (fun o : Obj => by have := (hA.map.below ((Below.refl _ w).alloc (Nat.le_refl _) o)).look hid; rw [hf] at this; exact this)
  have hl1 := HL.out (.cells #[.int .i64 0, .int .i64 0] 62)
  simp only [Option.isSome_none] at hl1
  clear HL hA
  go_enter Try.func29, Try.ntmps29
  go_wp2
  go_returns
  exact ⟨rfl, below_alloc (below_alloc (Below.refl _ _) _) _⟩
set_option maxHeartbeats 1000000 in
set_option maxRecDepth 100000 in
theorem find_yes (A : Ar) (id : Int) (hid : (Lit.int .i64 id).wf = true) (r : Rg) (hf : findR A.rs id = some r) (g c b : Nat) (mv : Value) (w : World) (hA : ArAt w g c b mv A) : Calls Try.prog 29 #[.pointer (some ⟨g, 0, none⟩), .int .i64 id] w fun e w' => e = .returned (.tuple #[.agg #[.int .i64 (r.b : Int), .int .i64 (r.n : Int)], .int .i64 0]) ∧ Below w.heap.size w w' := by
  have c2 := hA.head.cell 2
  simp at c2
  have hgl := hA.head.lt
  have HL := Lib.hid (fun o : Obj => by have := (hA.map.below ((Below.refl _ w).alloc (Nat.le_refl _) o)).look hid; rw [hf] at this; exact this)
  have hl1 := HL.out (.cells #[.int .i64 0, .int .i64 0] 62)
  simp only [Option.isSome_some] at hl1
  obtain ⟨ri, rb, rn⟩ := r
  simp only at hl1 ⊢
  clear HL hA hf
  go_enter Try.func29, Try.ntmps29
  go_wp2
  go_returns
  exact ⟨rfl, below_alloc (below_alloc (Below.refl _ _) _) _⟩
theorem find_none (id : Int) (w : World) : Calls Try.prog 29 #[.pointer none, .int .i64 id] w fun e w' => e = .returned (.tuple #[.agg #[.int .i64 0, .int .i64 0], .int .i64 9]) ∧ Below w.heap.size w w' := by
  go_enter Try.func29, Try.ntmps29
  go_wp2
  go_returns
  exact ⟨rfl, below_alloc (Below.refl _ _) _⟩
theorem left_c (A : Ar) (g c b : Nat) (mv : Value) (w : World) (hA : ArAt w g c b mv A) : Calls Try.prog 14 #[.pointer (some ⟨g, 0, none⟩)] w fun e w' => e = .returned (.int .i64 ((A.size : Int) - A.used)) ∧ w = w' := by
  have c4 := hA.head.cell 4
  simp at c4
  clear hA
  go_enter Try.func14, Try.ntmps14
  go_wp2
  go_ret
  exact ⟨rfl, rfl⟩
theorem left_none (w : World) : Calls Try.prog 14 #[.pointer none] w fun e w' => e = .returned (.int .i64 0) ∧ w = w' := by
  go_enter Try.func14, Try.ntmps14
  go_wp2
  go_ret
  exact ⟨rfl, rfl⟩
def lenV (rs : List Rg) (id : Int) : Int := match findR rs id with | some r => (r.n : Int) | none => -1
def baseV (rs : List Rg) (id : Int) : Int := match findR rs id with | some r => (r.b : Int) | none => -1
set_option maxHeartbeats 1000000 in
theorem len_c (A : Ar) (id : Int) (hid : (Lit.int .i64 id).wf = true) (g c b : Nat) (mv : Value) (w : World) (hA : ArAt w g c b mv A) : Calls Try.prog 18 #[.pointer (some ⟨g, 0, none⟩), .int .i64 id] w fun e w' => e = .returned (.int .i64 (lenV A.rs id)) ∧ Below w.heap.size w w' := by
  cases hf : findR A.rs id with
  | none =>
    have FC := Lib.hid (find_no A id hid hf g c b mv w hA)
    have E := Lib.hid (show lenV A.rs id = -1 by unfold lenV; rw [hf])
    clear hf hA hid
    go_enter Try.func18, Try.ntmps18
    go_wp2_with fail
    refine FC.out.mono ?_
    rintro e w1 ⟨rfl, h1⟩
    have H1 := Lib.hid h1
    clear h1
    go_wp2_with fail
    go_ret
    exact ⟨ret_int E.out.symm, below_alloc H1.out _⟩
  | some r =>
    have FC := Lib.hid (find_yes A id hid r hf g c b mv w hA)
    have E := Lib.hid (show lenV A.rs id = r.n by unfold lenV; rw [hf])
    clear hf hA hid
    go_enter Try.func18, Try.ntmps18
    go_wp2_with fail
    refine FC.out.mono ?_
    rintro e w1 ⟨rfl, h1⟩
    have H1 := Lib.hid h1
    clear h1
    go_wp2_with fail
    go_ret
    exact ⟨ret_int E.out.symm, below_alloc H1.out _⟩
theorem len_none (id : Int) (w : World) : Calls Try.prog 18 #[.pointer none, .int .i64 id] w fun e w' => e = .returned (.int .i64 (-1)) ∧ Below w.heap.size w w' := by
  go_enter Try.func18, Try.ntmps18
  go_wp2_with fail
  refine (find_none id w).mono ?_
  rintro e w1 ⟨rfl, h1⟩
  have H1 := Lib.hid h1
  clear h1
  go_wp2_with fail
  go_ret
  exact ⟨rfl, below_alloc H1.out _⟩
set_option maxHeartbeats 1000000 in
theorem base_c (A : Ar) (id : Int) (hid : (Lit.int .i64 id).wf = true) (g c b : Nat) (mv : Value) (w : World) (hA : ArAt w g c b mv A) : Calls Try.prog 15 #[.pointer (some ⟨g, 0, none⟩), .int .i64 id] w fun e w' => e = .returned (.int .i64 (baseV A.rs id)) ∧ Below w.heap.size w w' := by
  cases hf : findR A.rs id with
  | none =>
    have FC := Lib.hid (find_no A id hid hf g c b mv w hA)
    have E := Lib.hid (show baseV A.rs id = -1 by unfold baseV; rw [hf])
    clear hf hA hid
    go_enter Try.func15, Try.ntmps15
    go_wp2_with fail
    refine FC.out.mono ?_
    rintro e w1 ⟨rfl, h1⟩
    have H1 := Lib.hid h1
    clear h1
    go_wp2_with fail
    go_ret
    exact ⟨ret_int E.out.symm, below_alloc H1.out _⟩
  | some r =>
    have FC := Lib.hid (find_yes A id hid r hf g c b mv w hA)
    have E := Lib.hid (show baseV A.rs id = r.b by unfold baseV; rw [hf])
    clear hf hA hid
    go_enter Try.func15, Try.ntmps15
    go_wp2_with fail
    refine FC.out.mono ?_
    rintro e w1 ⟨rfl, h1⟩
    have H1 := Lib.hid h1
    clear h1
    go_wp2_with fail
    go_ret
    exact ⟨ret_int E.out.symm, below_alloc H1.out _⟩
theorem base_none (id : Int) (w : World) : Calls Try.prog 15 #[.pointer none, .int .i64 id] w fun e w' => e = .returned (.int .i64 (-1)) ∧ Below w.heap.size w w' := by
  go_enter Try.func15, Try.ntmps15
  go_wp2_with fail
  refine (find_none id w).mono ?_
  rintro e w1 ⟨rfl, h1⟩
  have H1 := Lib.hid h1
  clear h1
  go_wp2_with fail
  go_ret
  exact ⟨rfl, below_alloc H1.out _⟩
end Go.Proofs.Ytgckncggcdmaaaa
