/- Lists of whole numbers, and the document's answers of layer 3. -/
import Derived.Test.YtafcnehinanecaaRows
import Derived.Test.YtafcnehinanecaaSpPure
import Derived.Test.YtafcnehinanecaaTail
import Derived.Deep.QuietTactic
import Derived.BigQuiet
import Derived.Laws.AppendOwn
import Derived.Deep.AppendLies
namespace Go.Proofs.Ytafcnehinanecaa
open Go.RowKit
def ints (l : List Int) : List Value := l.map (Value.int .i64)
theorem ints_len (l : List Int) : (ints l).length = l.length := by unfold ints; simp
theorem ints_app (l m : List Int) : ints (l ++ m) = ints l ++ ints m := by unfold ints; simp
/-- A slice of whole numbers, its cells in a block from base on. -/
def IntsAt (w : World) (base : Nat) (v : Value) (l : List Int) : Prop :=
  ∃ A cap, v = .slice A l.length cap ∧ (A = none → cap = 0) ∧ (0 < l.length → ∃ b o, A = some ⟨b, o, none⟩ ∧ base ≤ b ∧ b < w.heap.size ∧ ∀ i (h : i < l.length), w.cell? ⟨b, o + i, none⟩ = some (.int .i64 l[i]))
theorem IntsAt.zero (w : World) (base : Nat) (A : Option Addr) (cap : Nat) (hn : A = none → cap = 0) : IntsAt w base (.slice A 0 cap) [] := ⟨A, cap, rfl, hn, fun h => absurd h (by simp)⟩
theorem IntsAt.moved {w w' : World} {base : Nat} {v : Value} {l : List Int} (h : IntsAt w base v l) (hs : w.heap.size ≤ w'.heap.size) (k : ∀ b, base ≤ b → b < w.heap.size → w'.heap[b]? = w.heap[b]?) : IntsAt w' base v l := by
  obtain ⟨A, cap, e, hn, hc⟩ := h
  refine ⟨A, cap, e, hn, fun h0 => ?_⟩
  obtain ⟨b, o, e, hb, hlt, hc⟩ := hc h0
  exact ⟨b, o, e, hb, by omega, fun i hi => (World.cell?_of_block (w := w) (k b hb hlt)).trans (hc i hi)⟩
theorem IntsAt.below {w w' : World} {base : Nat} {v : Value} {l : List Int} (h : IntsAt w base v l) (k : Below w.heap.size w w') : IntsAt w' base v l := h.moved k.size (fun b _ hb => k.block b hb)
theorem IntsAt.only {S : List Nat} {w w' : World} {base : Nat} {v : Value} {l : List Int} (h : IntsAt w base v l) (k : Only S w w') (hS : ∀ x ∈ S, x < base) : IntsAt w' base v l := h.moved k.size (fun b hb hl => k.block b hl (fun hm => by have := hS b hm; omega))
theorem IntsAt.mono {w : World} {base base' : Nat} {v : Value} {l : List Int} (h : IntsAt w base v l) (hb : base' ≤ base) : IntsAt w base' v l := by
  obtain ⟨A, cap, e, hn, hc⟩ := h
  exact ⟨A, cap, e, hn, fun h0 => by obtain ⟨b, o, e, h1, h2⟩ := hc h0; exact ⟨b, o, e, Nat.le_trans hb h1, h2⟩⟩
theorem IntsAt.own {w : World} {base : Nat} {v : Value} {l : List Int} (h : w.ownsRow base 3 1 v l.length (ints l)) : IntsAt w base v l := by
  obtain ⟨ao, cap, rfl, hn, hv⟩ : ∃ ao cap, v = .slice ao l.length cap ∧ (ao = none → cap = 0) ∧ (0 < l.length → ∃ g, ao = some ⟨g, 0, none⟩ ∧ base ≤ g ∧ g < w.heap.size) := by
    rcases h.2 with ⟨hv, h0⟩ | ⟨g, cap, cur, hv, hg, hh, _⟩
    · exact ⟨none, 0, by rw [hv, h0], fun _ => rfl, fun h => absurd h (by omega)⟩
    · exact ⟨_, cap, hv, (fun e => by cases e), fun _ => ⟨g, rfl, hg, (Array.getElem?_eq_some_iff.1 hh).1⟩⟩
  refine ⟨ao, cap, rfl, hn, fun h0 => ?_⟩
  obtain ⟨g, rfl, hg, hl⟩ := hv h0
  refine ⟨g, 0, rfl, hg, hl, fun i hi => ?_⟩
  rw [Nat.zero_add, h.cellAt i (by omega)]
  unfold ints; rw [List.getElem?_map, List.getElem?_eq_getElem hi]; rfl
theorem below_drewN (w : World) (n : Nat) : Below w.heap.size w (w.drewN n) := below_draws (Below.refl _ _) n
set_option maxHeartbeats 1000000 in
set_option maxRecDepth 100000 in
theorem rhas_c (l : List Int) (x : Int) (hl : l.length ≤ 1000000) (base : Nat) (v : Value) (w : World) (h : IntsAt w base v l) : Calls Try.prog 33 #[v, .int .i64 x] w fun e w' => e = .returned (.bool (l.any (· == x))) ∧ w = w' := by
  obtain ⟨A, cap, rfl, _, hc⟩ := h
  have HC := Lib.hid hc
  clear hc
  go_enter Try.func33, Try.ntmps33
  go_wp2_with fail
  go_loop [5] (fun i => ∃ k : Nat, k ≤ l.length ∧ i = .int .i64 k ∧ (l.take k).any (· == x) = false) (fun i => l.length - (intOf i).toNat)
  case atStart => exact ⟨0, by omega, rfl, by simp⟩
  case round =>
    obtain ⟨k, hk, rfl, hno⟩ := hrel
    have HN := Lib.hid hno
    clear hno
    by_cases hlt : k < l.length
    · obtain ⟨b, o, rfl, _, hb, hcell⟩ := HC.out (by omega)
      have c0 := hcell k hlt
      have T := Lib.hid (show (l.take (k + 1)).any (· == x) = ((l.take k).any (· == x) || l[k] == x) by rw [List.take_succ_eq_append_getElem hlt, List.any_append]; simp)
      have E := Lib.hid (show l.any (· == x) = true ∨ (l[k] == x) = false by
        cases hx : l[k] == x with
        | true => exact .inl (List.any_eq_true.2 ⟨l[k], List.getElem_mem hlt, hx⟩)
        | false => exact .inr rfl)
      generalize l[k] = y at c0 T E
      have t0 : decide (k < l.length) = true := by simp; omega
      have t2 : (k : Int) < (l.length : Nat) := by omega
      clear hcell
      cases hx : (y == x) with
      | true =>
        have HX := Lib.hid (show l.any (· == x) = true from E.out.elim id (fun g => by rw [hx] at g; cases g))
        go_wp2_with fail
        go_ret
        exact ⟨ret_bool (by rw [HX.out]), rfl⟩
      | false =>
        have HX := Lib.hid (show (l.take (k + 1)).any (· == x) = false by rw [T.out, HN.out, hx]; rfl)
        go_wp2_with fail
        go_round
        case rel => exact ⟨k + 1, by omega, by go_num, HX.out⟩
        case measure => simp [intOf]; omega
    · have e : k = l.length := by omega
      subst e
      have t0 : ¬ l.length < l.length := by omega
      go_wp2_with fail
      go_ret
      exact ⟨ret_bool (by have := HN.out; rw [List.take_length] at this; rw [this]), rfl⟩
theorem take_snoc_eq {l m : List Int} {k : Nat} (h1 : k < l.length) (h2 : k < m.length) (h : l.take k = m.take k) (e : l[k] = m[k]) : l.take (k + 1) = m.take (k + 1) := by
  rw [List.take_succ_eq_append_getElem h1, List.take_succ_eq_append_getElem h2, h, e]
set_option maxHeartbeats 1000000 in
set_option maxRecDepth 100000 in
theorem same_c (l m : List Int) (hl : l.length ≤ 1000000) (hm : m.length ≤ 1000000) (base base' : Nat) (v v' : Value) (w : World) (h : IntsAt w base v l) (h' : IntsAt w base' v' m) : Calls Try.prog 16 #[v, v'] w fun e w' => e = .returned (.bool (decide (l = m))) ∧ ∃ n, w' = w.drewN n := by
  obtain ⟨A, cap, rfl, _, hc⟩ := h
  obtain ⟨A', cap', rfl, _, hc'⟩ := h'
  have HC := Lib.hid hc
  have HC' := Lib.hid hc'
  clear hc hc'
  by_cases hlen : l.length = m.length
  · have t1 : ((l.length : Int) != (m.length : Int)) = false := by simp; omega
    have HL := Lib.hid hlen
    clear hlen
    go_enter Try.func16, Try.ntmps16
    go_wp2_with fail
    go_loopw [5] (fun i wr => ∃ k : Nat, k ≤ l.length ∧ i = .int .i64 k ∧ l.take k = m.take k ∧ ∃ n, wr = w.drewN n) (fun i _ => l.length - (intOf i).toNat)
    case atStart => exact ⟨0, by omega, rfl, by simp, 0, rfl⟩
    case round =>
      obtain ⟨k, hk, rfl, hno, nw, rfl⟩ := hrel
      have HN := Lib.hid hno
      clear hno
      by_cases hlt : k < l.length
      · have hlt' : k < m.length := by have := HL.out; omega
        obtain ⟨b, o, rfl, _, hb, hcell⟩ := HC.out (by omega)
        obtain ⟨b', o', rfl, _, hb', hcell'⟩ := HC'.out (by omega)
        have c0 := hcell k hlt
        have c0' := hcell' k hlt'
        have T := Lib.hid (fun e => take_snoc_eq hlt hlt' HN.out e)
        have F := Lib.hid (show l = m → l[k] = m[k] from fun e => by subst e; rfl)
        generalize l[k] = y at c0 T F
        generalize m[k] = y' at c0' T F
        have t0 : decide (k < l.length) = true := by simp; omega
        have t2 : (k : Int) < (l.length : Nat) := by omega
        have t3 : (k : Int) < (m.length : Nat) := by omega
        clear hcell hcell'
        by_cases hy : y = y'
        · have HT := Lib.hid (T.out hy)
          have t4 : (y != y') = false := by simp [hy]
          clear T F
          have HY := Lib.hid hy
          clear hy
          go_wp2_with fail
          go_quiet (fail)
          go_wp2_with fail
          go_roundw
          case rel => exact ⟨k + 1, by omega, by go_num, HT.out, _, rfl⟩
          case measure => simp [intOf]; omega
        · have HT := Lib.hid (show ¬ l = m from fun e => hy (F.out e))
          have t4 : (y != y') = true := by simp [hy]
          clear T F hy
          go_wp2_with fail
          go_quiet (fail)
          go_wp2_with fail
          go_ret
          exact ⟨ret_bool (by rw [decide_eq_false HT.out]), _, World.drewN_drewN ..⟩
      · have e : k = l.length := by omega
        subst e
        have t0 : ¬ l.length < l.length := by omega
        go_wp2_with fail
        go_ret
        exact ⟨ret_bool (by have := HN.out; rw [List.take_length, HL.out, List.take_length] at this; simp [this]), nw, rfl⟩
  · have t1 : ((l.length : Int) != (m.length : Int)) = true := by simp; omega
    have HL := Lib.hid (show ¬ l = m from fun e => hlen (by rw [e]))
    clear hlen
    go_enter Try.func16, Try.ntmps16
    go_wp2_with fail
    go_ret
    exact ⟨ret_bool (by rw [decide_eq_false HL.out]), 0, rfl⟩
end Go.Proofs.Ytafcnehinanecaa
