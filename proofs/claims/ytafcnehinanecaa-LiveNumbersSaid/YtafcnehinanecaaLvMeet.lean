/- live.useful's closure: a state that is met. -/
import Derived.Test.YtafcnehinanecaaTabOut
namespace Go.Proofs.Ytafcnehinanecaa
open Go.RowKit
structure MeetAt (w : World) (B i8 ib w9 : Nat) (m : List Bool) (wt : List Int) : Prop where
  hi : Blk w i8 45 #[.slice (some ⟨ib, 0, none⟩) m.length m.length]
  hb : Blk w ib 4 (bools m)
  hw : ∃ wv, Blk w w9 24 #[wv] ∧ w.ownsRow B 3 1 wv wt.length (ints wt)
  n1 : i8 ≠ ib
  n2 : w9 ≠ i8
  n3 : w9 ≠ ib
  l1 : i8 < B
  l2 : ib < B
  l3 : w9 < B
theorem MeetAt.below {w w' : World} {B i8 ib w9 : Nat} {m : List Bool} {wt : List Int} (h : MeetAt w B i8 ib w9 m wt) (k : Below w.heap.size w w') : MeetAt w' B i8 ib w9 m wt := by
  obtain ⟨wv, h1, h2⟩ := h.hw
  exact ⟨h.hi.below k, h.hb.below k, ⟨wv, h1.below k, own_below h2 k⟩, h.n1, h.n2, h.n3, h.l1, h.l2, h.l3⟩
def meetW (m : List Bool) (wt : List Int) (i : Nat) : List Int := if m.getD i false then wt else wt ++ [(i : Int)]
theorem set_true {m : List Bool} {i : Nat} (h : m.getD i false = true) : m.set i true = m := by
  have hi : i < m.length := by
    apply Classical.byContradiction; intro hc
    rw [List.getD_eq_getElem?_getD, List.getElem?_eq_none (by omega)] at h
    exact nomatch h
  rw [List.getD_eq_getElem?_getD, List.getElem?_eq_getElem hi] at h
  have e : m[i] = true := h
  conv => lhs; rw [← e]
  exact List.set_getElem_self hi
attribute [local irreducible] Calls
set_option maxHeartbeats 2000000 in
theorem meet_c (m : List Bool) (wt : List Int) (i : Nat) (hi : i < m.length) (hw : wt.length ≤ 100000) (B i8 ib w9 B0 : Nat) (w : World) (hB : B ≤ w.heap.size) (b2 : B0 ≤ ib) (b3 : B0 ≤ w9) (b4 : B0 ≤ B) (h : MeetAt w B i8 ib w9 m wt) :
    Calls Try.prog 44 #[.int .i64 i, .pointer (some ⟨i8, 0, none⟩), .pointer (some ⟨w9, 0, none⟩)] w fun e w' => e = .returned (.tuple #[]) ∧ MeetAt w' B i8 ib w9 (m.set i true) (meetW m wt i) ∧ Below B0 w w' := by
  have H := Lib.hid h
  have ci := h.hi.cell 0
  have cb := (h.hb.cell i).trans (bools_at hi)
  have fb := h.hb.free i
  have t1 : decide (i < m.length) = true := by simpa
  simp at ci
  clear h
  cases hm : m.getD i false with
  | true =>
    rw [hm] at cb
    have E1 := Lib.hid (set_true hm)
    have E2 := Lib.hid (show meetW m wt i = wt from by unfold meetW; rw [hm]; rfl)
    clear hm
    go_enter Try.func44, Try.ntmps44
    go_wp2_with fail
    go_returns
    exact ⟨rfl, by rw [E1.out, E2.out]; exact H.out, Below.refl _ _⟩
  | false =>
    rw [hm] at cb
    have E2 := Lib.hid (show meetW m wt i = wt ++ [(i : Int)] from by unfold meetW; rw [hm]; rfl)
    clear hm
    go_enter Try.func44, Try.ntmps44
    go_upto_region 2 with fail
    clear ci cb fb
    obtain ⟨wv, h1, h2⟩ := H.out.hw
    have HI := Lib.hid (H.out.hi.far (p := ⟨ib, i, none⟩) H.out.n1 (.bool true))
    have HBB := Lib.hid ((H.out.hb.set i (.bool true)).cast (bools_set m i true))
    have HW9 := Lib.hid (h1.far (p := ⟨ib, i, none⟩) H.out.n3 (.bool true))
    have HO := Lib.hid (own_put (j := i) (u := .bool true) h2 H.out.l2)
    have BL := Lib.hid (show Below B0 w (w.setCell ⟨ib, i, none⟩ (.bool true)) from (Below.refl B0 w).setCell b2 _)
    have hs2 : B ≤ (w.setCell ⟨ib, i, none⟩ (.bool true)).heap.size := Nat.le_trans hB (BL.out.size)
    clear h1 h2
    generalize w.setCell ⟨ib, i, none⟩ (.bool true) = w1 at *
    have c9 := HW9.out.cell 0
    simp at c9
    obtain ⟨a7, c7, rfl, _⟩ := own_form HO.out
    go_wp2_with (at_builtin; refine wpList_push rfl (.tmp 12) (.tmp 14) rfl B wt i _ rfl HO.out rfl (by omega) hs2 ?_; intro v' w2 hown2 hgrow hbelow; have HO2 := Lib.hid hown2; have HG := Lib.hid hgrow; have HB2 := Lib.hid hbelow; have B9 := (HW9.out.alloc _).grown hgrow (own_ne HO.out H.out.l3); have e9 := B9.cell 0; have f9 := B9.free 0; simp at e9; obtain ⟨a8, c8, rfl, _⟩ := own_form hown2; clear hown2 hgrow hbelow)
    go_returns
    refine ⟨rfl, ⟨(((HI.out.alloc _).grown HG.out (own_ne HO.out H.out.l1)).far H.out.n2.symm _).cast (by rw [List.length_set]), ((HBB.out.alloc _).grown HG.out (own_ne HO.out H.out.l2)).far H.out.n3.symm _, ⟨_, B9.set 0 _, ?_⟩, H.out.n1, H.out.n2, H.out.n3, H.out.l1, H.out.l2, H.out.l3⟩, (BL.out.trans (HB2.out.mono b4)).setCell b3 _⟩
    rw [E2.out]
    have := own_put (j := 0) (u := .slice a8 (wt.length + 1) c8) HO2.out H.out.l3
    rw [List.length_append] at this ⊢
    exact this
end Go.Proofs.Ytafcnehinanecaa
