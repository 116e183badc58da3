/- A row of sets appended to another. -/
import Derived.Test.YtonicgbejmghkaaDoorPtEq
import Derived.Laws.AppendOwnNone
namespace Go.Proofs.YtonicgbejmghkaaDoor
open Go.RowKit
/-- No row at all, or one that lies somewhere. -/
def Nil0 (v : Value) : Prop := v = .slice none 0 0 ∨ ∃ a n c, v = .slice (some a) n c
theorem SetsR.news {w : World} {ad : Addr} {n c : Nat} {l : List (Nat → Nat)} (h : SetsR w (.slice (some ad) n c) l) (j : Nat) (u : Value) (hj : (setCsL l)[j]? = some u) : w.cell? (ad.add j) = some u := by
  have hjl := (List.getElem?_eq_some_iff.1 hj).1
  rw [setCsL_len] at hjl
  obtain ⟨b, off, e, hb, c0, c1, c2, c3⟩ := SetsR.at_ h (show j / 4 < l.length by omega)
  obtain ⟨d0, d1, d2, d3⟩ := setCsL_at l (j / 4) (by omega)
  cases e
  rw [Addr.add_mid]
  rcases (show j % 4 = 0 ∨ j % 4 = 1 ∨ j % 4 = 2 ∨ j % 4 = 3 by omega) with r | r | r | r
  · rw [show j = j / 4 * 4 from by omega, d0] at hj; cases hj; rw [show off + j = off + j / 4 * 4 from by omega]; exact c0
  · rw [show j = j / 4 * 4 + 1 from by omega, d1] at hj; cases hj; rw [show off + j = off + j / 4 * 4 + 1 from by omega]; exact c1
  · rw [show j = j / 4 * 4 + 2 from by omega, d2] at hj; cases hj; rw [show off + j = off + j / 4 * 4 + 2 from by omega]; exact c2
  · rw [show j = j / 4 * 4 + 3 from by omega, d3] at hj; cases hj; rw [show off + j = off + j / 4 * 4 + 3 from by omega]; exact c3
theorem setCsL_app (E l : List (Nat → Nat)) : setCsL (E ++ l) = setCsL E ++ setCsL l := by unfold setCsL; rw [List.flatMap_append]
theorem setCsL_one (l : List (Nat → Nat)) : ∀ u ∈ setCsL l, u.oneCell' = true := by
  intro u hu
  obtain ⟨S, _, hS⟩ := List.mem_flatMap.1 hu
  simp at hS
  rcases hS with rfl | rfl | rfl | rfl <;> rfl
theorem wp_copy {o : Oper} {a : Act} {K : Act → World → Prop} {Q : Exit → Act → World → Prop} {w : World} (s x : Operand)
    (ho : o.op = .call { callee := .builtin .append, args := #[s, x], argTypes := #[22, 22] }) (B : Nat) (E l : List (Nat → Nat)) (v1 v : Value)
    (hs : a.eval s = v1) (hown : w.ownsRow B 35 4 v1 E.length (setCsL E)) (hx : a.eval x = v) (hv : SetsR w v l) (hN : Nil0 v) (hl : E.length + l.length ≤ 1000) (hB : B ≤ w.heap.size)
    (h : ∀ v' w', w'.ownsRow B 35 4 v' (E ++ l).length (setCsL (E ++ l)) → w.grownBy w' v1.ownBlock → K (a.put o.dst v') w') : Oper.wp Tryd.prog o a w K Q := by
  obtain ⟨i0, hti, hz0, hz1, hz2⟩ := info_parts info_setz
  rcases hN with rfl | ⟨ad, n, c, rfl⟩
  · obtain ⟨ao, cap, e, _⟩ := hv
    have e0 : l = [] := by injection e with _ e2 _; exact List.eq_nil_of_length_eq_zero e2.symm
    subst e0
    have hrun := run_append_owned_none (P := Tryd.prog) (w := w) B 22 o.type 35 i0 4 Tryd.underlying22 hti v1 E.length (setCsL E) hown
    unfold Oper.wp
    simp [execOp, ho, resolve, invoke, builtin, hs, hx, hrun, Result.andThen]
    exact h v1 w (by simpa using hown) (World.grownBy.refl _ _)
  · have hn : n = l.length := by obtain ⟨ao, cap, e, _⟩ := hv; injection e
    subst hn
    refine wp_append_own w s x 22 ho B 35 i0 _ 4 32 Tryd.underlying22 hti hz0 hz1 hz2 rfl (by omega) v1 E.length (setCsL E) hs hown ad l.length c (setCsL l) hx (setCsL_len l) hv.news (setCsL_one l) (by unfold maxLen; omega) (by omega) hB ?_
    intro v' w' h1 h2 _
    exact h v' w' (by rw [List.length_append, setCsL_app]; exact h1) h2
theorem wpList_copy {ops : Array Oper} {rest : List Oper} {o : Oper} {a : Act} {Q : Exit → Act → World → Prop} {w : World} (hgd : o.guard = none) (s x : Operand)
    (ho : o.op = .call { callee := .builtin .append, args := #[s, x], argTypes := #[22, 22] }) (B : Nat) (E l : List (Nat → Nat)) (v1 v : Value)
    (hs : a.eval s = v1) (hown : w.ownsRow B 35 4 v1 E.length (setCsL E)) (hx : a.eval x = v) (hv : SetsR w v l) (hN : Nil0 v) (hl : E.length + l.length ≤ 1000) (hB : B ≤ w.heap.size)
    (h : ∀ v' w', w'.ownsRow B 35 4 v' (E ++ l).length (setCsL (E ++ l)) → w.grownBy w' v1.ownBlock → wpList Tryd.prog ops Q rest (a.put o.dst v') w') : wpList Tryd.prog ops Q (o :: rest) a w :=
  wpList_plain hgd fun _ hK => wp_copy s x ho B E l v1 v hs hown hx hv hN hl hB fun v' w' h1 h2 => hK _ _ (h v' w' h1 h2)
theorem nil0_own {w : World} {B n : Nat} {v : Value} {xs : List Value} (h : w.ownsRow B 35 4 v n xs) : Nil0 v := by
  rcases h.2 with ⟨rfl, rfl⟩ | ⟨g, cap, cur, rfl, _⟩
  · exact .inl rfl
  · exact .inr ⟨_, _, _, rfl⟩
theorem own_none (w : World) (B : Nat) (hB : B ≤ w.heap.size) : (w.alloc (.cells #[] 35)).ownsRow B 35 4 (.slice (some ⟨w.heap.size, 0, none⟩) 0 0) ([] : List (Nat → Nat)).length (setCsL []) :=
  World.ownsRow_lit (base := B) (size := 4) (e := 35) w #[] 0 hB (by unfold maxLen; omega) rfl
theorem own_one (w : World) (B : Nat) (hB : B ≤ w.heap.size) (S : Nat → Nat) : (w.alloc (.cells #[.int .u64 (S 0), .int .u64 (S 1), .int .u64 (S 2), .int .u64 (S 3)] 35)).ownsRow B 35 4 (.slice (some ⟨w.heap.size, 0, none⟩) 1 1) [S].length (setCsL [S]) :=
  World.ownsRow_lit (base := B) (size := 4) (e := 35) w #[.int .u64 (S 0), .int .u64 (S 1), .int .u64 (S 2), .int .u64 (S 3)] 1 hB (by unfold maxLen; omega) rfl
end Go.Proofs.YtonicgbejmghkaaDoor
