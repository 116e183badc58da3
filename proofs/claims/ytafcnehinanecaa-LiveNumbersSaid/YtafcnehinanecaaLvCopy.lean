/- A whole list of numbers appended to an empty one; a list that is an argument. -/
import Derived.Test.YtafcnehinanecaaTabGrow
import Derived.Test.YtafcnehinanecaaTabPush
import Derived.Test.YtafcnehinanecaaOpenInts
namespace Go.Proofs.Ytafcnehinanecaa
open Go.ChangeShapes Go.WideShapes Go.ChangeAt Go.RowKit Go.Deep
theorem run_copy_own (w : World) (ty : TypeId) (B : Nat) (v x : Value) (l : List Int) (hown : w.ownsRow B 3 1 v 0 []) (hx : IntsAt w 0 x l) (hl : l.length ≤ 1000000) (hB : B ≤ w.heap.size) :
    ∃ v' w', (Builtin.append_ #[24, 24] ty #[v, x]).run Try.prog w = .ok v' w' ∧ w'.ownsRow B 3 1 v' l.length (ints l) ∧ Below B w w' ∧ w.grownBy w' v.ownBlock := by
  obtain ⟨i0, hi, hz0, hz1, hz2⟩ := info_parts info_int
  obtain ⟨A, cap, rfl, hn, hc⟩ := hx
  cases A with
  | none =>
    have e0 : l = [] := by
      cases l with
      | nil => rfl
      | cons y t => obtain ⟨b, o, e, _⟩ := hc (by simp); cases e
    subst e0
    rw [hn rfl]
    exact ⟨v, w, run_append_owned_none (P := Try.prog) (w := w) B 24 ty 3 i0 1 Try.underlying24 hi v 0 [] hown, hown, Below.refl B w, ⟨rfl, rfl, rfl, Nat.le_refl _, fun _ _ _ => rfl⟩⟩
  | some ad =>
    obtain ⟨v', w', hr, ho, hg, _⟩ := run_append_own (P := Try.prog) w B 24 ty 3 i0 (.int .i64 0) 1 8 Try.underlying24 hi hz0 hz1 hz2 rfl (by decide) v 0 [] hown ad l.length cap (ints l) (by rw [ints_len, Nat.mul_one])
      (by
        intro j u hj
        obtain ⟨hlt, e⟩ := List.getElem?_eq_some_iff.1 hj
        rw [ints_len] at hlt
        obtain ⟨b, o, eo, _, _, hcc⟩ := hc (by omega)
        obtain rfl : ad = ⟨b, o, none⟩ := Option.some.inj eo
        rw [add_at, hcc j hlt]
        rw [← e]; unfold ints; exact congrArg some (List.getElem_map ..).symm)
      (by intro u hu; unfold ints at hu; obtain ⟨q, _, rfl⟩ := List.mem_map.1 hu; rfl) (by unfold maxLen; omega) (by omega) hB
    refine ⟨v', w', hr, ?_, Below.ofGrown (Below.refl B w) hown hg (Nat.le_refl _) hB, hg⟩
    simpa using ho
theorem wp_copy {o : Oper} {a : Act} {K : Act → World → Prop} {Q : Exit → Act → World → Prop} {w : World} (s x : Operand)
    (ho : o.op = .call { callee := .builtin .append, args := #[s, x], argTypes := #[24, 24] }) (B : Nat) (l : List Int) (v y : Value)
    (hs : a.eval s = v) (hown : w.ownsRow B 3 1 v 0 []) (hx : a.eval x = y) (hy : IntsAt w 0 y l) (hl : l.length ≤ 1000000) (hB : B ≤ w.heap.size)
    (h : ∀ v' w', w'.ownsRow B 3 1 v' l.length (ints l) → Below B w w' → w.grownBy w' v.ownBlock → K (a.put o.dst v') w') : Oper.wp Try.prog o a w K Q := by
  obtain ⟨v', w', hr, h1, h2, h3⟩ := run_copy_own w o.type B v y l hown hy hl hB
  unfold Oper.wp execOp
  simp only [ho, resolve, invoke, builtin, Sem.run_bind, Sem.run_pure, Result.andThen_ok, List.map_toArray, List.map_cons, List.map_nil, hs, hx, hr]
  exact h v' w' h1 h2 h3
theorem wpList_copy {ops : Array Oper} {rest : List Oper} {o : Oper} {a : Act} {Q : Exit → Act → World → Prop} {w : World} (hgd : o.guard = none) (s x : Operand)
    (ho : o.op = .call { callee := .builtin .append, args := #[s, x], argTypes := #[24, 24] }) (B : Nat) (l : List Int) (v y : Value)
    (hs : a.eval s = v) (hown : w.ownsRow B 3 1 v 0 []) (hx : a.eval x = y) (hy : IntsAt w 0 y l) (hl : l.length ≤ 1000000) (hB : B ≤ w.heap.size)
    (h : ∀ v' w', w'.ownsRow B 3 1 v' l.length (ints l) → Below B w w' → w.grownBy w' v.ownBlock → wpList Try.prog ops Q rest (a.put o.dst v') w') : wpList Try.prog ops Q (o :: rest) a w := by
  exact wpList_plain hgd fun _ hK => wp_copy s x ho B l v y hs hown hx hy hl hB fun v' w' h1 h2 h3 => hK _ _ (h v' w' h1 h2 h3)
set_option maxRecDepth 100000 in
/-- A list that is an argument, with its room. -/
theorem open_intsCap {H : Type} {enc : TypeId × Value → H} {w : World} {r : Reach} {b0 : Nat} {v : Value} {d : DataW H} {p : List MemPlace}
    (hv : Value.okWide Try.prog w r b0 24 v) (h : DataW.Trod enc Try.prog w 0 (fun _ => true) true 24 v d p) : ∃ (L : List Int) (A : Option Addr) (cap : Nat), v = .slice A L.length cap ∧ IntsAt w 0 (.slice A L.length cap) L ∧ L.length ≤ cap := by
  obtain ⟨A, len, cap, rfl⟩ := okWide_slice Try.underlying24 hv
  obtain ⟨fuel, hf⟩ := h
  rcases open_ints Try.underlying24 Try.underlying3 (by kernel_rfl) hf with ⟨hcs, _⟩ | ⟨a, len', cap', zs, hcs, _, hl, hm, hz, _, hi, hwf⟩
  · simp [Value.cells] at hcs
    obtain ⟨rfl, rfl, rfl⟩ := hcs
    exact ⟨[], none, 0, rfl, IntsAt.zero _ _ _ _ (fun _ => rfl), Nat.le_refl _⟩
  · simp [Value.cells] at hcs
    obtain ⟨rfl, rfl, rfl⟩ := hcs
    simp at hz
    have hlen : (zs.take len).length = len := by rw [List.length_take]; omega
    refine ⟨zs.take len, some a, cap, by rw [hlen], ⟨some a, cap, rfl, (fun e => by cases e), fun h0 => ?_⟩, by rw [hlen]; omega⟩
    rw [hlen] at h0
    have c0 := hi 0 (by omega)
    rw [add_zero'] at c0
    obtain ⟨hs, hb⟩ := cell_block c0
    obtain ⟨bb, oo, ss⟩ := a
    obtain rfl : ss = none := hs
    refine ⟨bb, oo, rfl, Nat.zero_le _, hb, fun i hi' => ?_⟩
    have h1 := hi i (by rw [hlen] at hi'; omega)
    rw [add_at] at h1
    rw [h1, List.getElem_take]
    simp [List.getD, List.getElem?_eq_getElem (show i < zs.length by rw [hlen] at hi'; omega)]
end Go.Proofs.Ytafcnehinanecaa
