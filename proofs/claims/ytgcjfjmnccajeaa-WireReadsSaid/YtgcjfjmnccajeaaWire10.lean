/- The wire's ReadResponse. -/
import Derived.Test.YtgcjfjmnccajeaaWire9
namespace Go.Proofs.Ytgcjfjmnccajeaa
open Go.RowKit
/-- What ReadResponse answers. -/
def RespE (s : List UInt8) (w : World) (e : Ending) (w' : World) : Prop :=
  if (spP s).2.2.2 = true then e = .returned (.tuple #[.agg #[.int .i64 0, .int .i64 0, .slice none 0 0], str [], .int .i64 10])
  else ∃ v, e = .returned (.tuple #[.agg #[.int .i64 (spP s).1.1, .int .i64 (spP s).1.2, v], str (spP s).2.2.1, .int .i64 0]) ∧ w'.ownsRow w.heap.size 78 3 v (spP s).2.1.length (tokCells (spP s).2.1)
set_option maxHeartbeats 4000000 in
set_option maxRecDepth 100000 in
theorem wreadR_c (s : List UInt8) (hl : s.length ≤ 1000000) (w : World) : Calls Try.prog 11 #[str s] w fun e w' => RespE s w e w' ∧ Below w.heap.size w w' := by
  have H0 : Rd (w.heap.size + 1) 75 [.int .i64 0, .int .i64 0, .slice none 0 0] s false ((w.alloc (Obj.cells #[.int .i64 0, .int .i64 0, .slice none 0 0] 36)).alloc (Obj.cells #[.string { data := s.toArray }, .bool false, .int .i64 0, .int .i64 0, .slice none 0 0] 75)) := by
    have := Blk.made (w.alloc (Obj.cells #[.int .i64 0, .int .i64 0, .slice none 0 0] 36)) 75 #[.string { data := s.toArray }, .bool false, .int .i64 0, .int .i64 0, .slice none 0 0]
    rw [World.size_alloc] at this
    exact this
  have RC := Lib.hid (sread_c (w.heap.size + 1) s hl _ H0)
  have RE : Hid (∀ e w', RespE s w e w' = _) := Lib.hid (fun e w' => RespE.eq_1 s w e w')
  clear H0
  obtain ⟨X, hX⟩ : ∃ X, X = spP s := ⟨_, rfl⟩
  rw [← hX] at RC RE
  clear hX
  obtain ⟨⟨k, t⟩, toks, rest, bad⟩ := X
  simp only at RE RC
  unfold str at RE
  have e0 : str s = .string ⟨s.toArray⟩ := rfl
  rw [e0]
  clear e0
  go_enter Try.func11, Try.ntmps11
  go_wp2_with fail
  refine RC.out.mono ?_; rintro e w1 ⟨rfl, ⟨v, h1, hown⟩, h2⟩
  have c0 := h1.cell0
  have c1 := h1.cell1
  unfold str at c0
  have d0 : w1.cell? ⟨w.heap.size + 1, 2, none⟩ = some (.int .i64 k) := Blk.cell h1 2
  have d1 : w1.cell? ⟨w.heap.size + 1, 3, none⟩ = some (.int .i64 t) := Blk.cell h1 3
  have d2 : w1.cell? ⟨w.heap.size + 1, 4, none⟩ = some v := Blk.cell h1 4
  have hrz : Blk w1 w.heap.size 36 #[.int .i64 0, .int .i64 0, .slice none 0 0] := Blk.only (Blk.alloc (Blk.made w _ _) _) h2 (by simp)
  have hlt := Blk.lt hrz
  have HB := Lib.hid (show Below w.heap.size w w1 from (((Only.refl [] w).alloc _).alloc _ |>.step h2 (by simp)).below (by simp))
  have r0 : w1.cell? ⟨w.heap.size, 0, none⟩ = some (.int .i64 0) := hrz.cell 0
  have r1 : w1.cell? ⟨w.heap.size, 1, none⟩ = some (.int .i64 0) := hrz.cell 1
  have r2 : w1.cell? ⟨w.heap.size, 2, none⟩ = some (.slice none 0 0) := hrz.cell 2
  have g0 := hrz.free 0
  have g1 := hrz.free 1
  have g2 := hrz.free 2
  have HRZ := Lib.hid hrz
  have HOW := Lib.hid (own_mono hown (by simp) : w1.ownsRow (w.heap.size + 1) 78 3 v toks.length (tokCells toks))
  have FIN := Lib.hid (fun w2 (h : Only [w.heap.size] w1 w2) => show Below w.heap.size w w2 from (Only.step (S := []) (Only.ofBelow [] HB.out) h (by simp)).below (by simp))
  obtain ⟨ao, cap, rfl, _⟩ := own_form hown
  clear h1 h2 hrz hown
  cases bad with
  | true =>
    clear d0 d1 d2
    go_wp2_with fail
    obtain ⟨w2, hw2⟩ : ∃ w2, w2 = put3 w1 w.heap.size (.int .i64 0) (.int .i64 0) (.slice none 0 0) := ⟨_, rfl⟩
    have HZ := put3_blk HRZ.out (.int .i64 0) (.int .i64 0) (.slice none 0 0)
    have HO := FIN.out _ (put3_only w1 w.heap.size (.int .i64 0) (.int .i64 0) (.slice none 0 0))
    rw [← hw2] at HZ HO
    unfold put3 at hw2
    rw [← hw2]
    have e0 : w2.cell? ⟨w.heap.size, 0, none⟩ = some (.int .i64 0) := HZ.cell 0
    have e1 : w2.cell? ⟨w.heap.size, 1, none⟩ = some (.int .i64 0) := HZ.cell 1
    have e2 : w2.cell? ⟨w.heap.size, 2, none⟩ = some (.slice none 0 0) := HZ.cell 2
    have HO2 := Lib.hid HO
    clear hw2 HZ HO r0 r1 r2 g0 g1 g2
    exact bodyPost_ret (v := .tuple #[.agg #[.int .i64 0, .int .i64 0, .slice none 0 0], .string { data := #[] }, .int .i64 10]) (by simp [results, Try.results11, go_sem, e0, e1, e2]) rfl ⟨by rw [RE.out]; simp only [reduceIte], HO2.out⟩
  | false =>
    go_wp2_with fail
    go_region
    go_wp2_with fail
    obtain ⟨w2, hw2⟩ : ∃ w2, w2 = put3 w1 w.heap.size (.int .i64 k) (.int .i64 t) (.slice ao toks.length cap) := ⟨_, rfl⟩
    have HZ := put3_blk HRZ.out (.int .i64 k) (.int .i64 t) (.slice ao toks.length cap)
    have HP := put3_only w1 w.heap.size (.int .i64 k) (.int .i64 t) (.slice ao toks.length cap)
    have HOW2 := own_only HOW.out HP (by simp)
    have HO := FIN.out _ HP
    rw [← hw2] at HZ HO HOW2
    clear HP
    unfold put3 at hw2
    rw [← hw2]
    have e0 : w2.cell? ⟨w.heap.size, 0, none⟩ = some (.int .i64 k) := HZ.cell 0
    have e1 : w2.cell? ⟨w.heap.size, 1, none⟩ = some (.int .i64 t) := HZ.cell 1
    have e2 : w2.cell? ⟨w.heap.size, 2, none⟩ = some (.slice ao toks.length cap) := HZ.cell 2
    have HO2 := Lib.hid HO
    clear hw2 HZ HO r0 r1 r2 g0 g1 g2
    exact bodyPost_ret (v := .tuple #[.agg #[.int .i64 k, .int .i64 t, .slice ao toks.length cap], .string ⟨rest.toArray⟩, .int .i64 0]) (by simp [results, Try.results11, go_sem, e0, e1, e2]) rfl ⟨by rw [RE.out, if_neg (by simp)]; exact ⟨_, rfl, (own_mono HOW2 (by simp)).drew⟩, below_draws HO2.out 1⟩
end Go.Proofs.Ytgcjfjmnccajeaa
