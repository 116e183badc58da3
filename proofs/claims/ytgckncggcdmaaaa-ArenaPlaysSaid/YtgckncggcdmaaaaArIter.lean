/- The regions of an arena's map come one by one. -/
import Derived.Test.YtgckncggcdmaaaaProg
import Derived.Test.YtgckncggcdmaaaaKit
import Derived.Lib.SlKeysI
import Derived.RangeFuncGives
import Derived.Shelf.SlIterI.Collect
import Derived.Sort.MapsRangeIn
import Derived.Maps.AppendAt
import Derived.Shelf.Abstract
namespace Go.Proofs.Ytgckncggcdmaaaa
open Go.RowKit Go.Maps Go.Sort Go.Shelf
abbrev encRg (x : Int × Int) : Value := .agg #[.int .i64 x.1, .int .i64 x.2]
def rgD (x : Int × Int) : DataW Unit := .agg [.lit (.int .i64 x.1), .lit (.int .i64 x.2)]
def rgR (v : Value) : Option (DataW Unit × List MemPlace) :=
  match v with
  | .agg ⟨[.int .i64 a, .int .i64 b]⟩ => some (rgD (a, b), [])
  | _ => none
theorem rgR_mk (x : Int × Int) : rgR (encRg x) = some (rgD x, []) := rfl
theorem rgR_inv {v : Value} {y : DataW Unit × List MemPlace} (h : rgR v = some y) : ∃ x, v = encRg x ∧ y = (rgD x, []) := by
  unfold rgR at h
  split at h
  · injection h with h; exact ⟨_, rfl, h.symm⟩
  · cases h
theorem rgD_inj {x y : Int × Int} (h : rgD x = rgD y) : x = y := by
  obtain ⟨a, b⟩ := x
  obtain ⟨c, d⟩ := y
  unfold rgD at h
  injection h with h
  injection h with h1 h2
  injection h2 with h2
  injection h1 with h1
  injection h1 with _ h1
  injection h2 with h2
  injection h2 with _ h2
  exact Prod.ext h1 h2
/-- All have come: the keys, each once, each with its region. -/
def AllRg (D0 : DataW Unit) (ps : List (Int × (Int × Int))) : Prop := (ps.map (·.1)).Perm (intKeys D0) ∧ ∀ p ∈ ps, ∀ zd, D0.atKey (.int .i64 p.1) zd = rgD p.2
def RgOf (D0 : DataW Unit) (xs : List (Int × Int)) : Prop := ∃ ps, AllRg D0 ps ∧ xs = ps.map (·.2)
theorem law_int : Go.Maps.Keyed Try.prog 3 := int_keyed Try.underlying3
set_option maxRecDepth 100000 in
set_option maxHeartbeats 1000000 in
theorem vals1_in (F : Fence) (n : Nat) (hf : F.fn 47) (hro : F.round = none) (hn : 1 ≤ n) (l Bm b nn : Nat) (D0 : DataW Unit) (J : List (Int × Int) → World → Prop)
    (hY : ∀ pre x W, J pre W → pre.length < Maps.size D0 → YieldAt F (n - 1) Try.prog l #[encRg x] W fun e W' => e = .returned (.bool true) ∧ J (pre ++ [x]) W' ∧ KeepsWalks W W')
    (W : World) (hJ : AbidesFrom W.heap.size J) (hm : W.cell? ⟨Bm, 0, none⟩ = some (.map (some b))) (hown : W.ownsMap Try.prog 3 rgR b nn D0) (h0 : J [] W) :
    CallsIn F n Try.prog 47 #[.func (.yield l) #[] #[], .pointer (some ⟨Bm, 0, none⟩)] W fun e W' => (∃ v, e = .returned v) ∧ ∃ xs, RgOf D0 xs ∧ J xs W' := by
  refine callsIn_of_wp Try.func47 rfl hf ?_ hro
  simp only [Try.ntmps47, List.size_toArray, List.length_cons, List.length_nil, Nat.reduceAdd, Nat.reduceSub, Array.replicate_succ, Array.replicate_zero, List.push_toArray, List.append_toArray, List.nil_append, List.cons_append]
  gi_wp2_with (first
    | (gi_at_range; refine wpListIn_range_own _ rfl _ 57 rfl 3 62 law_int Try.underlying57 _ b nn _ rfl hown ?_; intro w0 hrg0 hg0 hs0)
    | gi_in)
  go_frame
  gi_loopw [4] (fun _ wr => ∃ (left : Lit → Bool) (cnt : Nat) (ps : List (Int × (Int × Int))), wr.ranges Try.prog 3 rgR b W.heap.size nn D0 left cnt ∧ ps.length + cnt ≤ Maps.size D0 ∧ CollectedI D0 left (ps.map (·.1)) ∧ (∀ p ∈ ps, ∀ zd, D0.atKey (.int .i64 p.1) zd = rgD p.2) ∧ J (ps.map (·.2)) wr ∧ W.heap.size ≤ wr.heap.size)
    (fun _ wr => wr.rangeLeft b W.heap.size)
  case atStart =>
    exact ⟨_, _, [], hrg0, by simp, CollectedI.start D0, by simp, hJ [] W w0 none h0 hg0 (fun r e => by cases e), by omega⟩
  case round =>
    obtain ⟨left, cnt, ps, hrg, hcs, hC, hV, hJs, hsz⟩ := hrel
    gi_wp2_with (first
      | (gi_at_next; refine wpListIn_next_ranges _ rfl _ rfl 3 law_int rgR encZ encRg (fun key kl hk => by obtain ⟨x, hx, _⟩ := Maps.keyOf_i64 Try.underlying3 hk; exact ⟨x, hx⟩) (fun v y hv => by obtain ⟨c, rfl, _⟩ := rgR_inv hv; exact ⟨c, rfl⟩) b W.heap.size nn _ _ _ rfl hrg ?_ ?_)
      | gi_in)
    · intro hc0 hl0
      gi_wp2
      go_end0
      exact ⟨⟨_, rfl⟩, _, ⟨ps, ⟨hC.perm hown law_int Try.underlying3 hl0, hV⟩, rfl⟩, hJs⟩
    · intro x c1 c2 kl yd yp w2 cnt2 hkey hlk hv hat hrg2 hlt hg2 hs2 hen
      obtain ⟨x', ex, rfl, _⟩ := Maps.keyOf_i64 Try.underlying3 hkey
      obtain rfl : x = x' := encZ_inj ex
      obtain ⟨c', ec, ez⟩ := rgR_inv hv
      obtain rfl : c' = (c1, c2) := by obtain ⟨b1, b2⟩ := c'; simp [encRg] at ec; rw [ec.1, ec.2]
      obtain rfl : yd = rgD (c1, c2) := (Prod.mk.inj ez).1
      have hJ2 : J (ps.map (·.2)) w2 := hJ _ wr w2 (some W.heap.size) hJs hg2 (fun r e => by cases e; exact ⟨Nat.le_refl _, hrg.iter_walk⟩)
      have hJ3 := hJ _ w2 (w2.alloc (.cells #[.int .i64 c1, .int .i64 c2] 62)) none hJ2 (World.grownBy_alloc w2 _ none) (fun r e => by cases e)
      have hkA := KeepsWalks.alloc w2 (.cells #[.int .i64 c1, .int .i64 c2] 62)
      obtain ⟨fn, tmps, assign, body, hy, hR⟩ := hY (ps.map (·.2)) (c1, c2) _ hJ3 (by rw [List.length_map]; omega)
      dsimp only [encRg] at hy
      clear hs2
      gi_wp2
      refine hR.mono ?_
      have hC2 : CollectedI D0 (fun z => left z && !z.sameKey (.int .i64 x)) ((ps ++ [(x, (c1, c2))]).map (·.1)) := by simpa using hC.step hlk hat
      have hV2 : ∀ p ∈ ps ++ [(x, (c1, c2))], ∀ zd, D0.atKey (.int .i64 p.1) zd = rgD p.2 := fun p hp => (List.mem_append.1 hp).elim (hV p) (fun e => by simp at e; subst e; exact hat)
      rintro e W3 ⟨rfl, hJ4, hk3⟩
      gi_wp2
      have hrg3 := hrg2.of_walks (hkA.trans hk3)
      have hsz3 := (hkA.trans hk3).size
      have hsz2 := hg2.size
      go_roundw
      case rel => exact ⟨_, cnt2, ps ++ [(x, (c1, c2))], hrg3, by simp; omega, hC2, hV2, by simpa using hJ4, by omega⟩
      case measure => rw [hrg3.left_eq, hrg.left_eq]; exact hlt
theorem vals_gives (F : Fence) (n : Nat) (hf : F.fn 47) (hro : F.round = none) (hn : 1 ≤ n) (Bm b nn : Nat) (D0 : DataW Unit) (w : World) (hBm : Bm < w.heap.size)
    (hm : w.cell? ⟨Bm, 0, none⟩ = some (.map (some b))) (hown : w.ownsMap Try.prog 3 rgR b nn D0) :
    SeqGives F n Try.prog 47 #[.pointer (some ⟨Bm, 0, none⟩)] encRg (RgOf D0) (Maps.size D0) w := fun l J W hW hJ hY h0 => by
  have hown' : W.ownsMap Try.prog 3 rgR b nn D0 := by
    have hbl := hown.lt
    obtain ⟨es, clock, hb, Ft, hs, hD⟩ := hown
    exact ⟨es, clock, (hW.block b hbl).trans hb, Ft, hs, hD⟩
  exact vals1_in F n hf hro hn l Bm b nn D0 J hY W hJ ((hW.cell (p := ⟨Bm, 0, none⟩) hBm).trans hm) hown' h0
set_option maxHeartbeats 1000000 in
theorem vals_in (F : Fence) (n : Nat) (hf : F.fn 41) (hro : F.round = none) (mb : Option Nat) (w : World) :
    CallsIn F n Try.prog 41 #[.map mb] w fun e w' => e = .returned (.func (.func 47) #[] #[.pointer (some ⟨w.heap.size, 0, none⟩)]) ∧ w' = w.alloc (.cells #[.map mb] 57) := by
  refine callsIn_of_wp Try.func41 rfl hf ?_ hro
  simp only [Try.ntmps41, List.size_toArray, List.length_cons, List.length_nil, Nat.reduceAdd, Nat.reduceSub, Array.replicate_succ, Array.replicate_zero, List.push_toArray, List.append_toArray, List.nil_append, List.cons_append]
  gi_wp2
  go_ret
  exact ⟨rfl, rfl⟩
end Go.Proofs.Ytgckncggcdmaaaa
