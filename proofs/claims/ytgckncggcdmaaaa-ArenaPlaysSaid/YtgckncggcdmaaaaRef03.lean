/- Lists of whole numbers, and the document's answers of layer 3. -/
import Derived.Test.YtgckncggcdmaaaaRows
import Derived.Test.YtgckncggcdmaaaaSpPure
import Derived.Test.YtgckncggcdmaaaaTail
import Derived.Deep.QuietTactic
import Derived.BigQuiet
import Derived.Laws.AppendOwn
import Derived.Deep.AppendLies
namespace Go.Proofs.Ytgckncggcdmaaaa
open Go.RowKit
def ints (l : List Int) : List Value := l.map (Value.int .i64)
theorem ints_len (l : List Int) : (ints l).length = l.length := by unfold ints; simp
theorem ints_app (l m : List Int) : ints (l ++ m) = ints l ++ ints m := by unfold ints; simp
/-- A slice of whole numbers, its cells in a block from base on. -/
def IntsAt (w : World) (base : Nat) (v : Value) (l : List Int) : Prop :=
  ∃ A cap, v = .slice A l.length cap ∧ (A = none → cap = 0) ∧ (0 < l.length → ∃ b o, A = some ⟨b, o, none⟩ ∧ base ≤ b ∧ b < w.heap.size ∧ ∀ i (h : i < l.length), w.cell? ⟨b, o + i, none⟩ = some (.int .i64 l[i]))
theorem IntsAt.zero (w : World) (base : Nat) (A : Option Addr) (cap : Nat) (hn : A = none → cap = 0) : IntsAt w base (.slice A 0 cap) [] := ⟨A, cap, rfl, hn, fun h => absurd h (by simp)⟩
theorem IntsAt.moved {w w' : World} {base : Nat} {v : Value} {l : List Int} (h : IntsAt w base v l) (hs : w.heap.size ≤ w'.heap.size) (k : ∀ b, base ≤ b → b < w.heap.size → w'.heap[b]? = w.heap[b]?) : IntsAt w' base v l := by
  obtain ⟨A, cap, e, hn, hc⟩ := h
  refine ⟨A, cap, e, hn, fun h0 => ?_⟩
  obtain ⟨b, o, e, hb, hlt, hc⟩ := hc h0
  exact ⟨b, o, e, hb, by omega, fun i hi => (World.cell?_of_block (w := w) (k b hb hlt)).trans (hc i hi)⟩
theorem IntsAt.below {w w' : World} {base : Nat} {v : Value} {l : List Int} (h : IntsAt w base v l) (k : Below w.heap.size w w') : IntsAt w' base v l := h.moved k.size (fun b _ hb => k.block b hb)
theorem IntsAt.only {S : List Nat} {w w' : World} {base : Nat} {v : Value} {l : List Int} (h : IntsAt w base v l) (k : Only S w w') (hS : ∀ x ∈ S, x < base) : IntsAt w' base v l := h.moved k.size (fun b hb hl => k.block b hl (fun hm => by have := hS b hm; omega))
theorem IntsAt.mono {w : World} {base base' : Nat} {v : Value} {l : List Int} (h : IntsAt w base v l) (hb : base' ≤ base) : IntsAt w base' v l := by
  obtain ⟨A, cap, e, hn, hc⟩ := h
  exact ⟨A, cap, e, hn, fun h0 => by obtain ⟨b, o, e, h1, h2⟩ := hc h0; exact ⟨b, o, e, Nat.le_trans hb h1, h2⟩⟩
theorem IntsAt.own {w : World} {base : Nat} {v : Value} {l : List Int} (h : w.ownsRow base 3 1 v l.length (ints l)) : IntsAt w base v l := by
  obtain ⟨ao, cap, rfl, hn, hv⟩ : ∃ ao cap, v = .slice ao l.length cap ∧ (ao = none → cap = 0) ∧ (0 < l.length → ∃ g, ao = some ⟨g, 0, none⟩ ∧ base ≤ g ∧ g < w.heap.size) := by
    rcases h.2 with ⟨hv, h0⟩ | ⟨g, cap, cur, hv, hg, hh, _⟩
    · exact ⟨none, 0, by rw [hv, h0], fun _ => rfl, fun h => absurd h (by omega)⟩
    · exact ⟨_, cap, hv, (fun e => by cases e), fun _ => ⟨g, rfl, hg, (Array.getElem?_eq_some_iff.1 hh).1⟩⟩
  refine ⟨ao, cap, rfl, hn, fun h0 => ?_⟩
  obtain ⟨g, rfl, hg, hl⟩ := hv h0
  refine ⟨g, 0, rfl, hg, hl, fun i hi => ?_⟩
  rw [Nat.zero_add, h.cellAt i (by omega)]
  unfold ints; rw [List.getElem?_map, List.getElem?_eq_getElem hi]; rfl
theorem below_drewN (w : World) (n : Nat) : Below w.heap.size w (w.drewN n) := below_draws (Below.refl _ _) n
theorem take_snoc_eq {l m : List Int} {k : Nat} (h1 : k < l.length) (h2 : k < m.length) (h : l.take k = m.take k) (e : l[k] = m[k]) : l.take (k + 1) = m.take (k + 1) := by
  rw [List.take_succ_eq_append_getElem h1, List.take_succ_eq_append_getElem h2, h, e]
end Go.Proofs.Ytgckncggcdmaaaa
