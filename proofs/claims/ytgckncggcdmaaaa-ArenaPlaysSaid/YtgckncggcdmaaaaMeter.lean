/- The walks of package meter: each call turns the meter's own block alone, as the plain meter says. -/
import Derived.Test.YtgckncggcdmaaaaRows
import Derived.Test.YtgckncggcdmaaaaKit
import Derived.WalkKit
import Derived.WalkSpells
import Derived.WalkLawsBesides
import Derived.Lib.Hide
import Derived.RegionTactic
import Derived.Deep.QuietTactic
import Derived.BigQuiet
namespace Go.Proofs.Ytgckncggcdmaaaa
open Go.RowKit
/-- A meter, in plain numbers. -/
structure Mt where
  used : Int
  most : Int
  cells : Int
  done : Int
  steps : Int
  e : Int
def Mt.cs (m : Mt) : Array Value := #[.int .i64 m.used, .int .i64 m.most, .int .i64 m.cells, .int .i64 m.done, .int .i64 m.steps, .int .i64 m.e]
structure Mt.ok (m : Mt) : Prop where
  used0 : 0 ≤ m.used
  used1 : m.used ≤ m.cells
  most0 : m.used ≤ m.most
  most1 : m.most ≤ m.cells
  cells1 : m.cells ≤ 1048576
  done0 : 0 ≤ m.done
  done1 : m.done ≤ m.steps
  steps1 : m.steps ≤ 1073741824
def betw (n most : Int) : Int := if n < 0 then 0 else if most < n then most else n
def Mt.new (cells steps : Int) : Mt := ⟨0, 0, betw cells 1048576, 0, betw steps 1073741824, 0⟩
def Mt.refuse (m : Mt) (e : Int) : Mt := if m.e = 0 then { m with e := e } else m
def Mt.take (m : Mt) (n : Int) : Mt × Bool :=
  if n < 0 then (m, false) else if m.cells - m.used < n then (m.refuse 3, false)
  else ({ m with used := m.used + n, most := if m.most < m.used + n then m.used + n else m.most }, true)
def Mt.give (m : Mt) (n : Int) : Mt × Bool := if n < 0 ∨ m.used < n then (m, false) else ({ m with used := m.used - n }, true)
def Mt.step (m : Mt) (n : Int) : Mt × Bool :=
  if n < 0 then (m, false) else if m.steps - m.done < n then (m.refuse 4, false) else ({ m with done := m.done + n }, true)
def Mt.begin (m : Mt) (steps : Int) : Mt := { m with steps := betw steps 1073741824, done := 0, e := 0 }
theorem betw_bd (n : Int) {k : Int} (h : 0 ≤ k) : 0 ≤ betw n k ∧ betw n k ≤ k := by unfold betw; (repeat' split) <;> omega
theorem Mt.new_ok (c s : Int) : (Mt.new c s).ok := by
  have h1 := betw_bd c (k := 1048576) (by omega)
  have h2 := betw_bd s (k := 1073741824) (by omega)
  constructor <;> (simp only [Mt.new]; omega)
theorem Mt.refuse_ok {m : Mt} (h : m.ok) (e : Int) : (m.refuse e).ok := by
  unfold Mt.refuse; split
  · exact ⟨h.used0, h.used1, h.most0, h.most1, h.cells1, h.done0, h.done1, h.steps1⟩
  · exact h
theorem Mt.take_ok {m : Mt} (h : m.ok) (n : Int) : (m.take n).1.ok := by
  obtain ⟨a, b, c, d, e, f, g, i⟩ := h
  unfold Mt.take
  split
  · exact ⟨a, b, c, d, e, f, g, i⟩
  · split
    · exact Mt.refuse_ok ⟨a, b, c, d, e, f, g, i⟩ _
    · constructor <;> simp only <;> (try split) <;> omega
theorem Mt.give_ok {m : Mt} (h : m.ok) (n : Int) : (m.give n).1.ok := by
  obtain ⟨a, b, c, d, e, f, g, i⟩ := h
  unfold Mt.give
  split
  · exact ⟨a, b, c, d, e, f, g, i⟩
  · constructor <;> simp only <;> omega
theorem Mt.step_ok {m : Mt} (h : m.ok) (n : Int) : (m.step n).1.ok := by
  obtain ⟨a, b, c, d, e, f, g, i⟩ := h
  unfold Mt.step
  split
  · exact ⟨a, b, c, d, e, f, g, i⟩
  · split
    · exact Mt.refuse_ok ⟨a, b, c, d, e, f, g, i⟩ _
    · constructor <;> simp only <;> omega
theorem Mt.begin_ok {m : Mt} (h : m.ok) (n : Int) : (m.begin n).ok := by
  obtain ⟨a, b, c, d, e, f, g, i⟩ := h
  have h2 := betw_bd n (k := 1073741824) (by omega)
  constructor <;> simp only [Mt.begin] <;> omega
/-- The meter m lies in block b. -/
def MtAt (w : World) (b : Nat) (m : Mt) : Prop := Blk w b 74 m.cs
theorem MtAt.cells {w : World} {b : Nat} {m : Mt} (h : MtAt w b m) : w.cell? ⟨b, 0, none⟩ = some (.int .i64 m.used) ∧ w.cell? ⟨b, 1, none⟩ = some (.int .i64 m.most) ∧ w.cell? ⟨b, 2, none⟩ = some (.int .i64 m.cells) ∧
    w.cell? ⟨b, 3, none⟩ = some (.int .i64 m.done) ∧ w.cell? ⟨b, 4, none⟩ = some (.int .i64 m.steps) ∧ w.cell? ⟨b, 5, none⟩ = some (.int .i64 m.e) :=
  ⟨Blk.cell h 0, Blk.cell h 1, Blk.cell h 2, Blk.cell h 3, Blk.cell h 4, Blk.cell h 5⟩
theorem MtAt.free {w : World} {b : Nat} {m : Mt} (h : MtAt w b m) (i : Nat) : w.frozen? ⟨b, i, none⟩ = false := Blk.free h i
theorem betw_c (n k : Int) (h : 0 ≤ k) (w : World) : Calls Try.prog 35 #[.int .i64 n, .int .i64 k] w fun e w' => e = .returned (.int .i64 (betw n k)) ∧ w = w' := by
  go_enter Try.func35, Try.ntmps35
  go_wp2
  all_goals
    go_ret
    exact ⟨ret_int (by unfold betw; (repeat' split) <;> omega), rfl⟩
theorem new_c (c s : Int) (w : World) : Calls Try.prog 20 #[.int .i64 c, .int .i64 s] w fun e w' => e = .returned (.pointer (some ⟨w.heap.size, 0, none⟩)) ∧ w' = w.alloc (.cells (Mt.new c s).cs 74) := by
  go_enter Try.func20, Try.ntmps20
  go_wp2_with (go_at_call 35; refine (betw_c _ _ (by decide) _).mono ?_; rintro e w' ⟨rfl, rfl⟩)
  go_ret
  exact ⟨rfl, rfl⟩
theorem refuse_c (m : Mt) (e : Int) (b : Nat) (w : World) (h : MtAt w b m) : Calls Try.prog 38 #[.pointer (some ⟨b, 0, none⟩), .int .i64 e] w fun x w' => x = .returned (.bool false) ∧ MtAt w' b (m.refuse e) ∧ Only [b] w w' := by
  obtain ⟨c0, c1, c2, c3, c4, c5⟩ := h.cells
  have hf := h.free 5
  have H := Lib.hid h
  clear h c0 c1 c2 c3 c4
  by_cases g : m.e = 0
  · have g1 : (m.e == 0) = true := beq_iff_eq.mpr g
    have G := Lib.hid g
    clear g
    go_enter Try.func38, Try.ntmps38
    go_wp2
    go_ret
    exact ⟨rfl, by unfold Mt.refuse; rw [if_pos G.out]; exact Blk.set H.out 5 _, (Only.refl _ _).set (.inl (by simp)) _⟩
  · have g1 : (m.e == 0) = false := beq_eq_false_iff_ne.mpr g
    have G := Lib.hid g
    clear g
    go_enter Try.func38, Try.ntmps38
    go_wp2
    go_ret
    exact ⟨rfl, by unfold Mt.refuse; rw [if_neg G.out]; exact H.out, Only.refl _ _⟩
theorem take_c (m : Mt) (hm : m.ok) (n : Int) (b : Nat) (w : World) (h : MtAt w b m) : Calls Try.prog 27 #[.pointer (some ⟨b, 0, none⟩), .int .i64 n] w fun x w' => x = .returned (.bool (m.take n).2) ∧ MtAt w' b (m.take n).1 ∧ Only [b] w w' := by
  obtain ⟨c0, c1, c2, c3, c4, c5⟩ := h.cells
  have f0 := h.free 0
  have f1 := h.free 1
  have H := Lib.hid h
  obtain ⟨o1, o2, o3, o4, o5, o6, o7, o8⟩ := hm
  clear h c3 c4 c5 o6 o7 o8
  by_cases g : n < 0
  · have R := Lib.hid (show m.take n = (m, false) by unfold Mt.take; rw [if_pos g])
    go_enter Try.func27, Try.ntmps27
    go_wp2
    go_ret
    exact ⟨ret_bool (by rw [R.out]), by rw [R.out]; exact H.out, Only.refl _ _⟩
  · by_cases k : m.cells - m.used < n
    · have R := Lib.hid (show m.take n = (m.refuse 3, false) by unfold Mt.take; rw [if_neg g, if_pos k])
      go_enter Try.func27, Try.ntmps27
      go_wp2
      go_region
      go_wp2_with (go_at_call 38; refine (refuse_c m 3 b _ (Blk.drew H.out)).mono ?_; rintro e w1 ⟨rfl, hm1, ho1⟩)
      go_ret
      exact ⟨ret_bool (by rw [R.out]), by rw [R.out]; exact hm1, (Only.refl _ _).drew.trans ho1⟩
    · have R := Lib.hid (show m.take n = ({ m with used := m.used + n, most := if m.most < m.used + n then m.used + n else m.most }, true) by unfold Mt.take; rw [if_neg g, if_neg k])
      by_cases q : m.most < m.used + n
      all_goals
        have Q := Lib.hid q
        go_enter Try.func27, Try.ntmps27
        go_wp2
        go_region
        go_wp2
        go_region
        go_wp2
        go_ret
        exact ⟨ret_bool (by rw [R.out]), by rw [R.out]; exact (Blk.set (Blk.set H.out 0 _) 1 _).cast (by have := Q.out; simp only [Mt.cs]; (first | rw [if_pos this] | rw [if_neg (by omega)]); rfl), by repeat (first | exact Only.refl _ _ | refine Only.set ?_ (.inl (by simp)) _ | refine Only.drew ?_)⟩
theorem give_c (m : Mt) (hm : m.ok) (n : Int) (b : Nat) (w : World) (h : MtAt w b m) : Calls Try.prog 30 #[.pointer (some ⟨b, 0, none⟩), .int .i64 n] w fun x w' => x = .returned (.bool (m.give n).2) ∧ MtAt w' b (m.give n).1 ∧ Only [b] w w' := by
  obtain ⟨c0, c1, c2, c3, c4, c5⟩ := h.cells
  have f0 := h.free 0
  have H := Lib.hid h
  obtain ⟨o1, o2, o3, o4, o5, o6, o7, o8⟩ := hm
  clear h c1 c2 c3 c4 c5 o6 o7 o8
  by_cases g : n < 0
  · have R := Lib.hid (show m.give n = (m, false) by unfold Mt.give; rw [if_pos (.inl g)])
    go_enter Try.func30, Try.ntmps30
    go_wp2
    go_ret
    exact ⟨ret_bool (by rw [R.out]), by rw [R.out]; exact H.out, Only.refl _ _⟩
  · by_cases k : m.used < n
    · have R := Lib.hid (show m.give n = (m, false) by unfold Mt.give; rw [if_pos (.inr k)])
      go_enter Try.func30, Try.ntmps30
      go_wp2
      go_ret
      exact ⟨ret_bool (by rw [R.out]), by rw [R.out]; exact H.out, Only.refl _ _⟩
    · have R := Lib.hid (show m.give n = ({ m with used := m.used - n }, true) by unfold Mt.give; rw [if_neg (by omega)])
      go_enter Try.func30, Try.ntmps30
      go_wp2
      go_ret
      exact ⟨ret_bool (by rw [R.out]), by rw [R.out]; exact Blk.set H.out 0 _, (Only.refl _ _).set (.inl (by simp)) _⟩
theorem cells_c (m : Mt) (b : Nat) (w : World) (h : MtAt w b m) : Calls Try.prog 21 #[.pointer (some ⟨b, 0, none⟩)] w fun x w' => x = .returned (.tuple #[.int .i64 m.used, .int .i64 m.most, .int .i64 m.cells]) ∧ w' = w.drew := by
  obtain ⟨c0, c1, c2, c3, c4, c5⟩ := h.cells
  clear h c3 c4 c5
  go_enter Try.func21, Try.ntmps21
  go_wp2
  go_region
  go_wp2
  go_ret3
  exact ⟨rfl, rfl⟩
theorem take_nil (n : Int) (w : World) : Calls Try.prog 27 #[.pointer none, .int .i64 n] w fun x w' => x = .returned (.bool false) ∧ w = w' := by
  go_enter Try.func27, Try.ntmps27
  go_wp2
  go_ret
  exact ⟨rfl, rfl⟩
theorem give_nil (n : Int) (w : World) : Calls Try.prog 30 #[.pointer none, .int .i64 n] w fun x w' => x = .returned (.bool false) ∧ w = w' := by
  go_enter Try.func30, Try.ntmps30
  go_wp2
  go_ret
  exact ⟨rfl, rfl⟩
theorem cells_nil (w : World) : Calls Try.prog 21 #[.pointer none] w fun x w' => x = .returned (.tuple #[.int .i64 0, .int .i64 0, .int .i64 0]) ∧ w = w' := by
  go_enter Try.func21, Try.ntmps21
  go_wp2
  go_ret3
  exact ⟨rfl, rfl⟩
/-- The calls, what they come to named. -/
theorem take_r {m m' : Mt} {n : Int} {r : Bool} (hr : m.take n = (m', r)) (hm : m.ok) {b : Nat} {w : World} (h : MtAt w b m) : Calls Try.prog 27 #[.pointer (some ⟨b, 0, none⟩), .int .i64 n] w fun x w' => x = .returned (.bool r) ∧ MtAt w' b m' ∧ Only [b] w w' := by
  have := take_c m hm n b w h
  rw [hr] at this
  exact this
theorem give_r {m m' : Mt} {n : Int} {r : Bool} (hr : m.give n = (m', r)) (hm : m.ok) {b : Nat} {w : World} (h : MtAt w b m) : Calls Try.prog 30 #[.pointer (some ⟨b, 0, none⟩), .int .i64 n] w fun x w' => x = .returned (.bool r) ∧ MtAt w' b m' ∧ Only [b] w w' := by
  have := give_c m hm n b w h
  rw [hr] at this
  exact this
theorem MtAt.drew {w : World} {b : Nat} {m : Mt} (h : MtAt w b m) : MtAt w.drew b m := h
end Go.Proofs.Ytgckncggcdmaaaa
