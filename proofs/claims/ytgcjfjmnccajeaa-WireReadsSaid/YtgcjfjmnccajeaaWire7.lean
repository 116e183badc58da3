/- The wire's Read. -/
import Derived.Test.YtgcjfjmnccajeaaWire6
namespace Go.Proofs.Ytgcjfjmnccajeaa
open Go.RowKit
/-- What Read answers. -/
def readE (s : List UInt8) : Ending :=
  if (rqP s).2.2.2.2 = true then .returned (.tuple #[.agg (rqTl 0 0 (fun _ => 0) []).toArray, str [], .int .i64 10])
  else .returned (.tuple #[.agg (rqTl (rqP s).1.1 (rqP s).1.2 (rqP s).2.1 (rqP s).2.2.1).toArray, str (rqP s).2.2.2.1, .int .i64 0])
def put8 (w : World) (b : Nat) (a0 a1 a2 a3 a4 a5 a6 a7 : Value) : World :=
  (((((((w.setCell ⟨b, 0, none⟩ a0).setCell ⟨b, 1, none⟩ a1).setCell ⟨b, 2, none⟩ a2).setCell ⟨b, 3, none⟩ a3).setCell ⟨b, 4, none⟩ a4).setCell ⟨b, 5, none⟩ a5).setCell ⟨b, 6, none⟩ a6).setCell ⟨b, 7, none⟩ a7
theorem put8_blk {w : World} {b : Nat} {t : TypeId} {c0 c1 c2 c3 c4 c5 c6 c7 : Value} (h : Blk w b t #[c0, c1, c2, c3, c4, c5, c6, c7]) (a0 a1 a2 a3 a4 a5 a6 a7 : Value) :
    Blk (put8 w b a0 a1 a2 a3 a4 a5 a6 a7) b t #[a0, a1, a2, a3, a4, a5, a6, a7] := by
  have h1 : Blk _ b t #[a0, c1, c2, c3, c4, c5, c6, c7] := (h.set 0 a0).cast (by rfl)
  have h2 : Blk _ b t #[a0, a1, c2, c3, c4, c5, c6, c7] := (h1.set 1 a1).cast (by rfl)
  have h3 : Blk _ b t #[a0, a1, a2, c3, c4, c5, c6, c7] := (h2.set 2 a2).cast (by rfl)
  have h4 : Blk _ b t #[a0, a1, a2, a3, c4, c5, c6, c7] := (h3.set 3 a3).cast (by rfl)
  have h5 : Blk _ b t #[a0, a1, a2, a3, a4, c5, c6, c7] := (h4.set 4 a4).cast (by rfl)
  have h6 : Blk _ b t #[a0, a1, a2, a3, a4, a5, c6, c7] := (h5.set 5 a5).cast (by rfl)
  have h7 : Blk _ b t #[a0, a1, a2, a3, a4, a5, a6, c7] := (h6.set 6 a6).cast (by rfl)
  have h8 : Blk _ b t #[a0, a1, a2, a3, a4, a5, a6, a7] := (h7.set 7 a7).cast (by rfl)
  exact h8
theorem put8_only (w : World) (b : Nat) (a0 a1 a2 a3 a4 a5 a6 a7 : Value) : Only [b] w (put8 w b a0 a1 a2 a3 a4 a5 a6 a7) :=
  ((((((((Only.refl [b] w).set (p := ⟨b, 0, none⟩) (by simp) a0).set (p := ⟨b, 1, none⟩) (by simp) a1).set (p := ⟨b, 2, none⟩) (by simp) a2).set (p := ⟨b, 3, none⟩) (by simp) a3).set (p := ⟨b, 4, none⟩) (by simp) a4).set (p := ⟨b, 5, none⟩) (by simp) a5).set (p := ⟨b, 6, none⟩) (by simp) a6).set (p := ⟨b, 7, none⟩) (by simp) a7
set_option maxHeartbeats 4000000 in
set_option maxRecDepth 100000 in
theorem wread_c (s : List UInt8) (hl : s.length ≤ 1000000) (w : World) : Calls Try.prog 8 #[str s] w fun e w' => e = readE s ∧ Below w.heap.size w w' := by
  have H0 : Rd (w.heap.size + 1) 55 (rqTl 0 0 (fun _ => 0) []) s false ((w.alloc (Obj.cells #[Value.int IntKind.i64 0, Value.int IntKind.i64 0, Value.int IntKind.i64 0, Value.int IntKind.i64 0, Value.int IntKind.i64 0, Value.int IntKind.i64 0, Value.int IntKind.i64 0, Value.string { data := #[] }] 26)).alloc
      (Obj.cells #[Value.string { data := s.toArray }, Value.bool false, Value.int IntKind.i64 0, Value.int IntKind.i64 0, Value.int IntKind.i64 0, Value.int IntKind.i64 0, Value.int IntKind.i64 0, Value.int IntKind.i64 0, Value.int IntKind.i64 0, Value.string { data := #[] }] 55)) := by
    have := Blk.made (w.alloc (Obj.cells #[Value.int IntKind.i64 0, Value.int IntKind.i64 0, Value.int IntKind.i64 0, Value.int IntKind.i64 0, Value.int IntKind.i64 0, Value.int IntKind.i64 0, Value.int IntKind.i64 0, Value.string { data := #[] }] 26)) 55 #[Value.string { data := s.toArray }, Value.bool false, Value.int IntKind.i64 0, Value.int IntKind.i64 0, Value.int IntKind.i64 0, Value.int IntKind.i64 0, Value.int IntKind.i64 0, Value.int IntKind.i64 0, Value.int IntKind.i64 0, Value.string { data := #[] }]
    rw [World.size_alloc] at this
    exact this
  have RC := Lib.hid (rread_c (w.heap.size + 1) s hl _ H0)
  have RE := Lib.hid (readE.eq_1 s)
  clear H0
  obtain ⟨X, hX⟩ : ∃ X, X = rqP s := ⟨_, rfl⟩
  rw [← hX] at RC RE
  clear hX
  obtain ⟨⟨k, t⟩, q, text, rest, bad⟩ := X
  simp only at RE
  unfold str at RE ⊢
  go_enter Try.func8, Try.ntmps8
  go_wp2_with fail
  refine RC.out.mono ?_; rintro e w1 ⟨rfl, h1, h2⟩
  have h1' : Rd (w.heap.size + 1) 55 (rqTl k t q text) rest bad w1 := h1
  have c0 := h1'.cell0
  have c1 := h1'.cell1
  unfold str at c0
  have d0 : w1.cell? ⟨w.heap.size + 1, 2, none⟩ = some (.int .i64 k) := Blk.cell h1' 2
  have d1 : w1.cell? ⟨w.heap.size + 1, 3, none⟩ = some (.int .i64 t) := Blk.cell h1' 3
  have d2 : w1.cell? ⟨w.heap.size + 1, 4, none⟩ = some (.int .i64 (q 0)) := Blk.cell h1' 4
  have d3 : w1.cell? ⟨w.heap.size + 1, 5, none⟩ = some (.int .i64 (q 1)) := Blk.cell h1' 5
  have d4 : w1.cell? ⟨w.heap.size + 1, 6, none⟩ = some (.int .i64 (q 2)) := Blk.cell h1' 6
  have d5 : w1.cell? ⟨w.heap.size + 1, 7, none⟩ = some (.int .i64 (q 3)) := Blk.cell h1' 7
  have d6 : w1.cell? ⟨w.heap.size + 1, 8, none⟩ = some (.int .i64 (q 4)) := Blk.cell h1' 8
  have d7 : w1.cell? ⟨w.heap.size + 1, 9, none⟩ = some (.string ⟨text.toArray⟩) := Blk.cell h1' 9
  have hrz : Blk w1 w.heap.size 26 #[Value.int IntKind.i64 0, Value.int IntKind.i64 0, Value.int IntKind.i64 0, Value.int IntKind.i64 0, Value.int IntKind.i64 0, Value.int IntKind.i64 0, Value.int IntKind.i64 0, Value.string { data := #[] }] := Blk.only (Blk.alloc (Blk.made w _ _) _) h2 (by simp)
  have hlt := Blk.lt hrz
  have HB := Lib.hid (show Below w.heap.size w w1 from (((Only.refl [] w).alloc _).alloc _ |>.step h2 (by simp)).below (by simp))
  have r0 : w1.cell? ⟨w.heap.size, 0, none⟩ = some (.int .i64 0) := hrz.cell 0
  have r1 : w1.cell? ⟨w.heap.size, 1, none⟩ = some (.int .i64 0) := hrz.cell 1
  have r2 : w1.cell? ⟨w.heap.size, 2, none⟩ = some (.int .i64 0) := hrz.cell 2
  have r3 : w1.cell? ⟨w.heap.size, 3, none⟩ = some (.int .i64 0) := hrz.cell 3
  have r4 : w1.cell? ⟨w.heap.size, 4, none⟩ = some (.int .i64 0) := hrz.cell 4
  have r5 : w1.cell? ⟨w.heap.size, 5, none⟩ = some (.int .i64 0) := hrz.cell 5
  have r6 : w1.cell? ⟨w.heap.size, 6, none⟩ = some (.int .i64 0) := hrz.cell 6
  have r7 : w1.cell? ⟨w.heap.size, 7, none⟩ = some (.string { data := #[] }) := hrz.cell 7
  have g0 := hrz.free 0
  have g1 := hrz.free 1
  have g2 := hrz.free 2
  have g3 := hrz.free 3
  have g4 := hrz.free 4
  have g5 := hrz.free 5
  have g6 := hrz.free 6
  have g7 := hrz.free 7
  have HRZ := Lib.hid hrz
  clear h1 h1' h2 hrz
  have FIN := Lib.hid (fun w2 (h : Only [w.heap.size] w1 w2) => show Below w.heap.size w w2 from (Only.step (S := []) (Only.ofBelow [] HB.out) h (by simp)).below (by simp))
  cases bad with
  | true =>
    rw [if_pos rfl] at RE
    clear d0 d1 d2 d3 d4 d5 d6 d7
    go_wp2_with fail
    obtain ⟨w2, hw2⟩ : ∃ w2, w2 = put8 w1 w.heap.size (.int .i64 0) (.int .i64 0) (.int .i64 0) (.int .i64 0) (.int .i64 0) (.int .i64 0) (.int .i64 0) (.string { data := #[] }) := ⟨_, rfl⟩
    have HZ := put8_blk HRZ.out (.int .i64 0) (.int .i64 0) (.int .i64 0) (.int .i64 0) (.int .i64 0) (.int .i64 0) (.int .i64 0) (.string { data := #[] })
    have HO := FIN.out _ (put8_only w1 w.heap.size (.int .i64 0) (.int .i64 0) (.int .i64 0) (.int .i64 0) (.int .i64 0) (.int .i64 0) (.int .i64 0) (.string { data := #[] }))
    rw [← hw2] at HZ HO
    unfold put8 at hw2
    rw [← hw2]
    have e0 : w2.cell? ⟨w.heap.size, 0, none⟩ = some (.int .i64 0) := HZ.cell 0
    have e1 : w2.cell? ⟨w.heap.size, 1, none⟩ = some (.int .i64 0) := HZ.cell 1
    have e2 : w2.cell? ⟨w.heap.size, 2, none⟩ = some (.int .i64 0) := HZ.cell 2
    have e3 : w2.cell? ⟨w.heap.size, 3, none⟩ = some (.int .i64 0) := HZ.cell 3
    have e4 : w2.cell? ⟨w.heap.size, 4, none⟩ = some (.int .i64 0) := HZ.cell 4
    have e5 : w2.cell? ⟨w.heap.size, 5, none⟩ = some (.int .i64 0) := HZ.cell 5
    have e6 : w2.cell? ⟨w.heap.size, 6, none⟩ = some (.int .i64 0) := HZ.cell 6
    have e7 : w2.cell? ⟨w.heap.size, 7, none⟩ = some (.string { data := #[] }) := HZ.cell 7
    have HO2 := Lib.hid HO
    clear hw2 HZ HO r0 r1 r2 r3 r4 r5 r6 r7 g0 g1 g2 g3 g4 g5 g6 g7
    exact bodyPost_ret (v := .tuple #[.agg #[.int .i64 0, .int .i64 0, .int .i64 0, .int .i64 0, .int .i64 0, .int .i64 0, .int .i64 0, .string { data := #[] }], .string { data := #[] }, .int .i64 10]) (by simp [results, Try.results8, go_sem, e0, e1, e2, e3, e4, e5, e6, e7]) rfl ⟨RE.out.symm, HO2.out⟩
  | false =>
    rw [if_neg (by simp)] at RE
    go_wp2_with fail
    go_region
    go_wp2_with fail
    obtain ⟨w2, hw2⟩ : ∃ w2, w2 = put8 w1 w.heap.size (.int .i64 k) (.int .i64 t) (.int .i64 (q 0)) (.int .i64 (q 1)) (.int .i64 (q 2)) (.int .i64 (q 3)) (.int .i64 (q 4)) (.string ⟨text.toArray⟩) := ⟨_, rfl⟩
    have HZ := put8_blk HRZ.out (.int .i64 k) (.int .i64 t) (.int .i64 (q 0)) (.int .i64 (q 1)) (.int .i64 (q 2)) (.int .i64 (q 3)) (.int .i64 (q 4)) (.string ⟨text.toArray⟩)
    have HO := FIN.out _ (put8_only w1 w.heap.size (.int .i64 k) (.int .i64 t) (.int .i64 (q 0)) (.int .i64 (q 1)) (.int .i64 (q 2)) (.int .i64 (q 3)) (.int .i64 (q 4)) (.string ⟨text.toArray⟩))
    rw [← hw2] at HZ HO
    unfold put8 at hw2
    rw [← hw2]
    have e0 : w2.cell? ⟨w.heap.size, 0, none⟩ = some (.int .i64 k) := HZ.cell 0
    have e1 : w2.cell? ⟨w.heap.size, 1, none⟩ = some (.int .i64 t) := HZ.cell 1
    have e2 : w2.cell? ⟨w.heap.size, 2, none⟩ = some (.int .i64 (q 0)) := HZ.cell 2
    have e3 : w2.cell? ⟨w.heap.size, 3, none⟩ = some (.int .i64 (q 1)) := HZ.cell 3
    have e4 : w2.cell? ⟨w.heap.size, 4, none⟩ = some (.int .i64 (q 2)) := HZ.cell 4
    have e5 : w2.cell? ⟨w.heap.size, 5, none⟩ = some (.int .i64 (q 3)) := HZ.cell 5
    have e6 : w2.cell? ⟨w.heap.size, 6, none⟩ = some (.int .i64 (q 4)) := HZ.cell 6
    have e7 : w2.cell? ⟨w.heap.size, 7, none⟩ = some (.string ⟨text.toArray⟩) := HZ.cell 7
    have HO2 := Lib.hid HO
    clear hw2 HZ HO r0 r1 r2 r3 r4 r5 r6 r7 g0 g1 g2 g3 g4 g5 g6 g7
    exact bodyPost_ret (v := .tuple #[.agg #[.int .i64 k, .int .i64 t, .int .i64 (q 0), .int .i64 (q 1), .int .i64 (q 2), .int .i64 (q 3), .int .i64 (q 4), .string ⟨text.toArray⟩], .string ⟨rest.toArray⟩, .int .i64 0]) (by simp [results, Try.results8, go_sem, e0, e1, e2, e3, e4, e5, e6, e7]) rfl ⟨RE.out.symm, below_draws HO2.out 1⟩
end Go.Proofs.Ytgcjfjmnccajeaa
