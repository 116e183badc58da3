/- The sparse set's lists; the document's. -/
import Derived.Test.YtafcnehinanecaaSparse2
import Derived.Test.YtafcnehinanecaaShelf
import Derived.Sort.OwnSortedInts
namespace Go.Proofs.Ytafcnehinanecaa
open Go.RowKit
def nats (l : List Nat) : List Int := l.map fun (n : Nat) => (n : Int)
theorem nats_len (l : List Nat) : (nats l).length = l.length := by unfold nats; simp
/-- A row of whole numbers of the call's own: its value. -/
def Own (w : World) (base : Nat) (v : Value) (l : List Int) : Prop := w.ownsRow base 3 1 v l.length (ints l)
set_option maxHeartbeats 1000000 in
set_option maxRecDepth 100000 in
theorem slist_c (s : Sp) (h : s.ok) (g r : Nat) (w : World) (hs : SpAt w g r s) : Calls Try.prog 49 #[.pointer (some ⟨g, 0, none⟩)] w fun e w' => ∃ v, e = .returned v ∧ Own w' w.heap.size v (nats s.l) ∧ Below w.heap.size w w' := by
  have c0 := hs.head.cell 0
  have c2 := hs.head.cell 2
  simp at c0 c2
  have hsm := h.small
  have hll := Sp.len_le h
  have d0 : ∀ x : Ext w, x.v.cell? ⟨g, 0, none⟩ = some (.slice (some ⟨r, 0, none⟩) s.n s.n) := fun x => x.cell c0
  have d2 : ∀ x : Ext w, x.v.cell? ⟨g, 2, none⟩ = some (.int .i64 (s.l.length : Nat)) := fun x => x.cell c2
  have HC := Lib.hid (show ∀ x : Ext w, ∀ j, j < (nats s.l).length → x.v.cell? ⟨r, 0 + j, none⟩ = some (.int .i64 ((nats s.l).getD j 0)) from fun x j hj => by
    rw [nats_len] at hj
    have := x.cell (hs.cell (h.dense j hj))
    rw [Nat.zero_add, this, List.getD_eq_getElem?_getD]
    unfold nats
    rw [List.getElem?_map, List.getElem?_eq_getElem hj]; rfl)
  have NL := Lib.hid (nats_len s.l)
  have TK := Lib.hid (show (nats s.l).take s.l.length = nats s.l by rw [List.take_of_length_le]; rw [nats_len]; exact Nat.le_refl _)
  have Z := Lib.hid (show s.l.length = 0 → nats s.l = [] from fun e => by have := List.eq_nil_of_length_eq_zero e; rw [this]; rfl)
  clear hs h
  have t1 : (s.l.length : Int) ≤ (s.n : Nat) := by omega
  generalize s.l.length = k at *
  go_enter Try.func49, Try.ntmps49
  go_upto_region 3 with fail
  refine wp_region_ext_tail 9 (by kernel_rfl) (by kernel_rfl) ?_
  simp only [List.take_succ_cons, List.take_zero, List.drop_succ_cons, List.drop_zero]
  repeat (go_big_quiet_step (fail))
  refine wpQuiet_nil ?_
  intro _ hw'
  obtain ⟨xq, hw''⟩ := hw'
  subst hw''
  clear d0 d2
  have fin : ∀ (w2 : World) (v : Value), w2.ownsRow xq.v.heap.size 3 1 v k (ints (nats s.l)) → Below xq.v.heap.size xq.v w2 → Own w2 w.heap.size v (nats s.l) ∧ Below w.heap.size w w2 := fun w2 v h1 h2 =>
    ⟨by unfold Own; rw [NL.out]; exact own_mono h1 xq.h.size, below_step xq.h h2⟩
  have FIN := Lib.hid fin
  clear fin
  by_cases hk : k = 0
  · have Z1 := Lib.hid (Z.out hk)
    have t2 : ((k : Nat) : Int) = 0 := by omega
    subst hk
    go_wp2_with (go_at_call 58; refine (Try.slices_Clone_int_zero _ _ _).mono ?_; rintro e w2 ⟨v, rfl, h1, _, h2⟩)
    go_ret
    exact ⟨v, rfl, FIN.out w2 v (by rw [Z1.out]; exact h1) h2⟩
  · go_wp2_with (go_at_call 58; refine (Try.slices_Clone_int r 0 k _ (nats s.l) _ (by rw [NL.out]; exact Nat.le_refl _) (by omega) (HC.out xq)).mono ?_; rintro e w2 ⟨v, rfl, h1, _, h2⟩)
    go_ret
    exact ⟨v, rfl, FIN.out w2 v (by rw [TK.out] at h1; exact h1) h2⟩
theorem slist_nil (w : World) : Calls Try.prog 49 #[.pointer none] w fun e w' => e = .returned (.slice none 0 0) ∧ w = w' := by
  go_enter Try.func49, Try.ntmps49
  go_wp2
  go_ret
  exact ⟨rfl, rfl⟩
def sortI (l : List Int) : List Int := l.mergeSort fun x y => decide (x ≤ y)
theorem sortI_len (l : List Int) : (sortI l).length = l.length := List.length_mergeSort _
set_option maxHeartbeats 1000000 in
theorem sort_c (l : List Int) (hl : l.length ≤ 1000000) (base : Nat) (v : Value) (w : World) (h : Own w base v l) : Calls Try.prog 30 #[v] w fun e w' => e = .returned (.tuple #[]) ∧ Own w' base v (sortI l) ∧ Below base w w' := by
  by_cases h0 : l = []
  · subst h0
    have hf := own_form h
    obtain ⟨ao, cap, rfl, _⟩ := hf
    refine (Try.slices_Sort_int_none ao cap w).mono ?_
    rintro e w' ⟨rfl, rfl⟩
    exact ⟨rfl, by rw [show sortI [] = [] from by unfold sortI; simp]; exact h, ⟨rfl, rfl, rfl, Nat.le_refl _, fun _ _ => rfl⟩⟩
  · have hlen : 0 < l.length := by cases l with | nil => exact absurd rfl h0 | cons _ _ => simp
    rcases h.2 with ⟨_, hz⟩ | ⟨g, cap, cur, rfl, hg, hb, hn, hc, hs, ht⟩
    · omega
    · have hlt : g < w.heap.size := (Array.getElem?_eq_some_iff.1 hb).1
      have hH := holds_of_blockI hb (ss := l) (by rw [Nat.mul_one] at ht; exact ht)
      refine (Try.slices_Sort_int g 0 cap l w hH hlt (by omega)).mono ?_
      rintro e w' ⟨rfl, n, os, rfl⟩
      refine ⟨rfl, ?_, ?_⟩
      · have := ownsRow_sortedI (os := os) (n := n) (sortI_len l) hg hb hn hc hs
        unfold Own
        rw [sortI_len]
        exact this
      · have := grownBy_sortedI (w := w) (g := g) (n := n) (os := os) (sortI l).toArray
        exact ⟨this.os, this.tape, this.output, this.size, fun k hk => this.block k (by omega) (fun e => by simp at e; omega)⟩
end Go.Proofs.Ytafcnehinanecaa
