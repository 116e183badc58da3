/- The walks of the reference of layer 1: the same plain meter. -/
import Derived.Test.YthbjdnhncgobkaaMeter
namespace Go.Proofs.Ythbjdnhncgobkaa
open Go.RowKit
/-- The reference's meter m lies in block b. -/
def RfAt (w : World) (b : Nat) (m : Mt) : Prop := Blk w b 27 m.cs
theorem RfAt.cells {w : World} {b : Nat} {m : Mt} (h : RfAt w b m) : w.cell? ⟨b, 0, none⟩ = some (.int .i64 m.used) ∧ w.cell? ⟨b, 1, none⟩ = some (.int .i64 m.most) ∧ w.cell? ⟨b, 2, none⟩ = some (.int .i64 m.cells) ∧
    w.cell? ⟨b, 3, none⟩ = some (.int .i64 m.done) ∧ w.cell? ⟨b, 4, none⟩ = some (.int .i64 m.steps) ∧ w.cell? ⟨b, 5, none⟩ = some (.int .i64 m.e) :=
  ⟨Blk.cell h 0, Blk.cell h 1, Blk.cell h 2, Blk.cell h 3, Blk.cell h 4, Blk.cell h 5⟩
theorem RfAt.free {w : World} {b : Nat} {m : Mt} (h : RfAt w b m) (i : Nat) : w.frozen? ⟨b, i, none⟩ = false := Blk.free h i
theorem rcut_c (n k : Int) (w : World) : Calls Try.prog 23 #[.int .i64 n, .int .i64 k] w fun e w' => e = .returned (.int .i64 (betw n k)) ∧ w = w' := by
  go_enter Try.func23, Try.ntmps23
  go_wp2
  all_goals
    go_ret
    exact ⟨ret_int (by unfold betw; (repeat' split) <;> omega), rfl⟩
theorem rnew_c (c s : Int) (w : World) : Calls Try.prog 10 #[.int .i64 c, .int .i64 s] w fun e w' => e = .returned (.agg (Mt.new c s).cs) ∧ Below w.heap.size w w' := by
  go_enter Try.func10, Try.ntmps10
  go_wp2_with (go_at_call 23; refine (rcut_c _ _ _).mono ?_; rintro e w' ⟨rfl, rfl⟩)
  exact bodyPost_ret (v := .agg (Mt.new c s).cs) (by simp [results, Try.results10, go_sem, Mt.cs, Mt.new]) rfl ⟨rfl, below_alloc (Below.refl _ _) _⟩
theorem note_c (m : Mt) (e : Int) (b : Nat) (w : World) (h : RfAt w b m) : Calls Try.prog 25 #[.pointer (some ⟨b, 0, none⟩), .int .i64 e] w fun x w' => x = .returned (.bool false) ∧ RfAt w' b (m.refuse e) ∧ Only [b] w w' := by
  obtain ⟨c0, c1, c2, c3, c4, c5⟩ := h.cells
  have hf := h.free 5
  have H := Lib.hid h
  clear h c0 c1 c2 c3 c4
  by_cases g : m.e = 0
  · have g1 : (m.e == 0) = true := beq_iff_eq.mpr g
    have G := Lib.hid g
    clear g
    go_enter Try.func25, Try.ntmps25
    go_wp2
    go_ret
    exact ⟨rfl, by unfold Mt.refuse; rw [if_pos G.out]; exact Blk.set H.out 5 _, (Only.refl _ _).set (.inl (by simp)) _⟩
  · have g1 : (m.e == 0) = false := beq_eq_false_iff_ne.mpr g
    have G := Lib.hid g
    clear g
    go_enter Try.func25, Try.ntmps25
    go_wp2
    go_ret
    exact ⟨rfl, by unfold Mt.refuse; rw [if_neg G.out]; exact H.out, Only.refl _ _⟩
theorem rtake_c (m : Mt) (hm : m.ok) (n : Int) (b : Nat) (w : World) (h : RfAt w b m) : Calls Try.prog 12 #[.pointer (some ⟨b, 0, none⟩), .int .i64 n] w fun x w' => x = .returned (.bool (m.take n).2) ∧ RfAt w' b (m.take n).1 ∧ Only [b] w w' := by
  obtain ⟨c0, c1, c2, c3, c4, c5⟩ := h.cells
  have f0 := h.free 0
  have f1 := h.free 1
  have H := Lib.hid h
  obtain ⟨o1, o2, o3, o4, o5, o6, o7, o8⟩ := hm
  clear h c3 c4 c5 o6 o7 o8
  by_cases g : n < 0
  · have R := Lib.hid (show m.take n = (m, false) by unfold Mt.take; rw [if_pos g])
    go_enter Try.func12, Try.ntmps12
    go_wp2
    go_ret
    exact ⟨ret_bool (by rw [R.out]), by rw [R.out]; exact H.out, Only.refl _ _⟩
  · by_cases k : m.cells - m.used < n
    · have R := Lib.hid (show m.take n = (m.refuse 3, false) by unfold Mt.take; rw [if_neg g, if_pos k])
      go_enter Try.func12, Try.ntmps12
      go_wp2
      go_region
      go_wp2_with (go_at_call 25; refine (note_c m 3 b _ (Blk.drew H.out)).mono ?_; rintro e w1 ⟨rfl, hm1, ho1⟩)
      go_ret
      exact ⟨ret_bool (by rw [R.out]), by rw [R.out]; exact hm1, (Only.refl _ _).drew.trans ho1⟩
    · have R := Lib.hid (show m.take n = ({ m with used := m.used + n, most := if m.most < m.used + n then m.used + n else m.most }, true) by unfold Mt.take; rw [if_neg g, if_neg k])
      by_cases q : m.most < m.used + n
      · have Q := Lib.hid q
        go_enter Try.func12, Try.ntmps12
        go_wp2
        go_region
        go_wp2
        go_region
        go_wp2
        go_ret
        exact ⟨ret_bool (by rw [R.out]), by rw [R.out]; exact (Blk.set (Blk.set H.out 0 _) 1 _).cast (by have := Q.out; simp only [Mt.cs]; rw [if_pos this]; rfl), by repeat (first | exact Only.refl _ _ | refine Only.set ?_ (.inl (by simp)) _ | refine Only.drew ?_)⟩
      · have Q := Lib.hid q
        go_enter Try.func12, Try.ntmps12
        go_wp2
        go_region
        go_wp2
        go_region
        go_wp2
        go_ret
        exact ⟨ret_bool (by rw [R.out]), by rw [R.out]; exact (Blk.set H.out 0 _).cast (by have := Q.out; simp only [Mt.cs]; rw [if_neg (by omega)]; rfl), by repeat (first | exact Only.refl _ _ | refine Only.set ?_ (.inl (by simp)) _ | refine Only.drew ?_)⟩
theorem rgive_c (m : Mt) (hm : m.ok) (n : Int) (b : Nat) (w : World) (h : RfAt w b m) : Calls Try.prog 14 #[.pointer (some ⟨b, 0, none⟩), .int .i64 n] w fun x w' => x = .returned (.bool (m.give n).2) ∧ RfAt w' b (m.give n).1 ∧ Only [b] w w' := by
  obtain ⟨c0, c1, c2, c3, c4, c5⟩ := h.cells
  have f0 := h.free 0
  have H := Lib.hid h
  obtain ⟨o1, o2, o3, o4, o5, o6, o7, o8⟩ := hm
  clear h c1 c2 c3 c4 c5 o6 o7 o8
  by_cases g : n < 0
  · have R := Lib.hid (show m.give n = (m, false) by unfold Mt.give; rw [if_pos (.inl g)])
    go_enter Try.func14, Try.ntmps14
    go_wp2
    go_ret
    exact ⟨ret_bool (by rw [R.out]), by rw [R.out]; exact H.out, Only.refl _ _⟩
  · by_cases k : m.used < n
    · have R := Lib.hid (show m.give n = (m, false) by unfold Mt.give; rw [if_pos (.inr k)])
      go_enter Try.func14, Try.ntmps14
      go_wp2
      go_ret
      exact ⟨ret_bool (by rw [R.out]), by rw [R.out]; exact H.out, Only.refl _ _⟩
    · have R := Lib.hid (show m.give n = ({ m with used := m.used - n }, true) by unfold Mt.give; rw [if_neg (by omega)])
      go_enter Try.func14, Try.ntmps14
      go_wp2
      go_ret
      exact ⟨ret_bool (by rw [R.out]), by rw [R.out]; exact Blk.set H.out 0 _, (Only.refl _ _).set (.inl (by simp)) _⟩
theorem rstep_c (m : Mt) (hm : m.ok) (n : Int) (b : Nat) (w : World) (h : RfAt w b m) : Calls Try.prog 16 #[.pointer (some ⟨b, 0, none⟩), .int .i64 n] w fun x w' => x = .returned (.bool (m.step n).2) ∧ RfAt w' b (m.step n).1 ∧ Only [b] w w' := by
  obtain ⟨c0, c1, c2, c3, c4, c5⟩ := h.cells
  have f3 := h.free 3
  have H := Lib.hid h
  obtain ⟨o1, o2, o3, o4, o5, o6, o7, o8⟩ := hm
  clear h c0 c1 c2 c5 o1 o2 o3 o4
  by_cases g : n < 0
  · have R := Lib.hid (show m.step n = (m, false) by unfold Mt.step; rw [if_pos g])
    go_enter Try.func16, Try.ntmps16
    go_wp2
    go_ret
    exact ⟨ret_bool (by rw [R.out]), by rw [R.out]; exact H.out, Only.refl _ _⟩
  · by_cases k : m.steps - m.done < n
    · have R := Lib.hid (show m.step n = (m.refuse 4, false) by unfold Mt.step; rw [if_neg g, if_pos k])
      go_enter Try.func16, Try.ntmps16
      go_wp2
      go_region
      go_wp2_with (go_at_call 25; refine (note_c m 4 b _ (Blk.drew H.out)).mono ?_; rintro e w1 ⟨rfl, hm1, ho1⟩)
      go_ret
      exact ⟨ret_bool (by rw [R.out]), by rw [R.out]; exact hm1, (Only.refl _ _).drew.trans ho1⟩
    · have R := Lib.hid (show m.step n = ({ m with done := m.done + n }, true) by unfold Mt.step; rw [if_neg g, if_neg k])
      go_enter Try.func16, Try.ntmps16
      go_wp2
      go_region
      go_wp2
      go_ret
      exact ⟨ret_bool (by rw [R.out]), by rw [R.out]; exact Blk.set H.out 3 _, by repeat (first | exact Only.refl _ _ | refine Only.set ?_ (.inl (by simp)) _ | refine Only.drew ?_)⟩
theorem rbegin_c (m : Mt) (n : Int) (b : Nat) (w : World) (h : RfAt w b m) : Calls Try.prog 18 #[.pointer (some ⟨b, 0, none⟩), .int .i64 n] w fun x w' => x = .returned (.tuple #[]) ∧ RfAt w' b (m.begin n) ∧ Only [b] w w' := by
  obtain ⟨c0, c1, c2, c3, c4, c5⟩ := h.cells
  have f3 := h.free 3
  have f4 := h.free 4
  have f5 := h.free 5
  have H := Lib.hid h
  clear h c0 c1 c2
  go_enter Try.func18, Try.ntmps18
  go_wp2_with (go_at_call 23; refine (rcut_c _ _ _).mono ?_; rintro e w' ⟨rfl, rfl⟩)
  go_end0
  exact ⟨rfl, Blk.set (Blk.set (Blk.set H.out 4 _) 3 _) 5 _, by repeat (first | exact Only.refl _ _ | refine Only.set ?_ (.inl (by simp)) _ | refine Only.drew ?_)⟩
end Go.Proofs.Ythbjdnhncgobkaa
