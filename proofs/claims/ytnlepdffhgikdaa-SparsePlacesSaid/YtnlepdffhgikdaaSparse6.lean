/- The sparse set under a meter: made, refused, dropped. -/
import Derived.Test.YtnlepdffhgikdaaSparse5
namespace Go.Proofs.Ytnlepdffhgikdaa
open Go.RowKit
set_option maxHeartbeats 1000000 in
set_option maxRecDepth 100000 in
theorem snew_no (n : Nat) (h : n ≤ 65536) (m m' : Mt) (hm : m.ok) (hr : m.take (2 * (n : Int)) = (m', false)) (b : Nat) (w : World) (hb : MtAt w b m) : Calls Try.prog 9 #[.pointer (some ⟨b, 0, none⟩), .int .i64 n] w fun e w' => e = .returned (.tuple #[.pointer none, .int .i64 3]) ∧ MtAt w' b m' ∧ Only [b] w w' := by
  have t1 : decide ((n : Int) < 0) = false := by simp
  have t2 : decide ((65536 : Int) < (n : Int)) = false := by simp; omega
  have TK := Lib.hid (take_r hr hm hb)
  clear hr hm hb
  go_enter Try.func9, Try.ntmps9
  go_wp2_with fail
  refine TK.out.mono ?_; rintro e w1 ⟨rfl, h1, h2⟩
  have H1 := Lib.hid h1
  have H2 := Lib.hid h2
  clear h1 h2
  go_wp2_with fail
  go_ret2
  exact ⟨rfl, H1.out, H2.out⟩
set_option maxHeartbeats 1000000 in
set_option maxRecDepth 100000 in
theorem snew_yes (n : Nat) (h : n ≤ 65536) (m m' : Mt) (hm : m.ok) (hr : m.take (2 * (n : Int)) = (m', true)) (b : Nat) (w : World) (hb : MtAt w b m) : Calls Try.prog 9 #[.pointer (some ⟨b, 0, none⟩), .int .i64 n] w fun e w' => ∃ g r, e = .returned (.tuple #[.pointer (some ⟨g, 0, none⟩), .int .i64 0]) ∧ SpAt w' g r (Sp.new n) ∧ w.heap.size ≤ r ∧ r < g ∧ MtAt w' b m' ∧ Only [b] w w' := by
  have t1 : decide ((n : Int) < 0) = false := by simp
  have t2 : decide ((65536 : Int) < (n : Int)) = false := by simp; omega
  have hmk := run_make_ints n h
  have TK := Lib.hid (take_r hr hm hb)
  clear hr hm hb
  go_enter Try.func9, Try.ntmps9
  go_wp2_with fail
  refine TK.out.mono ?_; rintro e w1 ⟨rfl, h1, h2⟩
  have H1 := Lib.hid h1
  have H2 := Lib.hid h2
  clear h1 h2
  go_upto_region 6 with fail
  refine wp_region_ext_tail 8 (by kernel_rfl) (by kernel_rfl) ?_
  simp only [List.take_succ_cons, List.take_zero, List.drop_succ_cons, List.drop_zero]
  repeat (go_big_quiet_step (fail))
  refine wpQuiet_nil ?_
  intro _ hw'
  obtain ⟨xq, hw''⟩ := hw'
  subst hw''
  have hb := xq.h
  generalize xq.v = wy at *
  have HB := Lib.hid hb
  clear hb
  have key : ∀ V : Value, V = .slice (some ⟨w1.heap.size, n, none⟩) n n → SpAt (wy.alloc (.cells #[.slice (some ⟨w1.heap.size, 0, none⟩) n n, V, .int .i64 0] 51)) wy.heap.size w1.heap.size (Sp.new n) ∧ w.heap.size ≤ w1.heap.size ∧ w1.heap.size < wy.heap.size ∧ MtAt (wy.alloc (.cells #[.slice (some ⟨w1.heap.size, 0, none⟩) n n, V, .int .i64 0] 51)) b m' ∧ Only [b] w (wy.alloc (.cells #[.slice (some ⟨w1.heap.size, 0, none⟩) n n, V, .int .i64 0] 51)) := by
    rintro V rfl
    have hs := HB.out.size
    simp at hs
    exact ⟨⟨Blk.made _ _ _, ((Blk.made w1 3 (ints (List.replicate (2 * n) 0)).toArray).below HB.out).alloc _, by omega⟩, H2.out.size, by omega, ((Blk.alloc H1.out _).below HB.out).alloc _, (((H2.out.alloc _).trans (Only.ofBelow _ HB.out)).alloc _)⟩
  have KEY := Lib.hid key
  clear key
  have h2 : 2 * n - n = n := by omega
  go_wp2_with fail
  all_goals
    go_ret2
    first
    | exact ⟨_, rfl, _, KEY.out _ rfl⟩
    | exact ⟨_, rfl, _, KEY.out _ (by obtain rfl : n = 0 := by omega
                                      rfl)⟩
theorem sdrop_nil (w : World) : Calls Try.prog 21 #[.pointer none, .pointer none] w fun e w' => e = .returned (.tuple #[]) ∧ w = w' := by
  go_enter Try.func21, Try.ntmps21
  go_wp2
  exact bodyPost_ret (v := .tuple #[]) (by simp [results, Try.results21, go_sem]) rfl ⟨rfl, rfl⟩
/-- A set that was dropped. -/
def Gone (w : World) (g : Nat) : Prop := Blk w g 51 #[.slice none 0 0, .slice none 0 0, .int .i64 0]
set_option maxHeartbeats 1000000 in
set_option maxRecDepth 100000 in
theorem sdrop_c (s : Sp) (h : s.ok) (g r : Nat) (m m' : Mt) (q : Bool) (hm : m.ok) (hr : m.give (2 * (s.n : Int)) = (m', q)) (b : Nat) (w : World) (hs : SpAt w g r s) (hb : MtAt w b m) (hne : g ≠ b) : Calls Try.prog 21 #[.pointer (some ⟨g, 0, none⟩), .pointer (some ⟨b, 0, none⟩)] w fun e w' => e = .returned (.tuple #[]) ∧ Gone w' g ∧ MtAt w' b m' ∧ Only [g, b] w w' := by
  have c1 := hs.head.cell 1
  simp at c1
  have hsm := h.small
  have GV := Lib.hid (give_r hr hm hb)
  have HS := Lib.hid hs.head
  clear hs hr hm hb h
  go_enter Try.func21, Try.ntmps21
  go_wp2_with fail
  refine GV.out.mono ?_; rintro e w1 ⟨rfl, h1, h2⟩
  have B1 := HS.out.only h2 (by simp; omega)
  have d0 := B1.cell 0
  have d1 := B1.cell 1
  have d2 := B1.cell 2
  simp at d0 d1 d2
  have f0 := B1.free 0
  have f1 := B1.free 1
  have f2 := B1.free 2
  have HB1 := Lib.hid B1
  have H1 := Lib.hid h1
  have H2 := Lib.hid h2
  clear B1 h1 h2 c1
  go_wp2_with fail
  go_end0
  refine ⟨rfl, ?_, ?_, ?_⟩
  · exact (((HB1.out.set 0 _).set 1 _).set 2 _).cast (by simp)
  · exact ((H1.out.far (p := ⟨g, 0, none⟩) (fun e => hne e.symm) _).far (p := ⟨g, 1, none⟩) (fun e => hne e.symm) _).far (p := ⟨g, 2, none⟩) (fun e => hne e.symm) _
  · exact ((((H2.out.mono (by simp)).set (p := ⟨g, 0, none⟩) (.inl (by simp)) _).set (p := ⟨g, 1, none⟩) (.inl (by simp)) _).set (p := ⟨g, 2, none⟩) (.inl (by simp)) _)
set_option maxHeartbeats 1000000 in
set_option maxRecDepth 100000 in
theorem gdrop_c (g : Nat) (m m' : Mt) (q : Bool) (hm : m.ok) (hr : m.give 0 = (m', q)) (b : Nat) (w : World) (hs : Gone w g) (hb : MtAt w b m) (hne : g ≠ b) : Calls Try.prog 21 #[.pointer (some ⟨g, 0, none⟩), .pointer (some ⟨b, 0, none⟩)] w fun e w' => e = .returned (.tuple #[]) ∧ Gone w' g ∧ MtAt w' b m' ∧ Only [g, b] w w' := by
  have c1 := Blk.cell hs 1
  simp at c1
  have GV := Lib.hid (give_r hr hm hb)
  have HS := Lib.hid hs
  clear hs hr hm hb
  go_enter Try.func21, Try.ntmps21
  go_wp2_with fail
  refine GV.out.mono ?_; rintro e w1 ⟨rfl, h1, h2⟩
  have B1 := Blk.only HS.out h2 (by simp; omega)
  have d0 := B1.cell 0
  have d1 := B1.cell 1
  have d2 := B1.cell 2
  simp at d0 d1 d2
  have f0 := B1.free 0
  have f1 := B1.free 1
  have f2 := B1.free 2
  have HB1 := Lib.hid B1
  have H1 := Lib.hid h1
  have H2 := Lib.hid h2
  clear B1 h1 h2 c1
  go_wp2_with fail
  go_end0
  refine ⟨rfl, ?_, ?_, ?_⟩
  · exact (((HB1.out.set 0 _).set 1 _).set 2 _).cast (by simp)
  · exact ((H1.out.far (p := ⟨g, 0, none⟩) (fun e => hne e.symm) _).far (p := ⟨g, 1, none⟩) (fun e => hne e.symm) _).far (p := ⟨g, 2, none⟩) (fun e => hne e.symm) _
  · exact ((((H2.out.mono (by simp)).set (p := ⟨g, 0, none⟩) (.inl (by simp)) _).set (p := ⟨g, 1, none⟩) (.inl (by simp)) _).set (p := ⟨g, 2, none⟩) (.inl (by simp)) _)
theorem glen_c (g : Nat) (w : World) (hs : Gone w g) : Calls Try.prog 15 #[.pointer (some ⟨g, 0, none⟩)] w fun e w' => e = .returned (.int .i64 0) ∧ w = w' := by
  have c2 := Blk.cell hs 2
  simp at c2
  clear hs
  go_enter Try.func15, Try.ntmps15
  go_wp2
  go_ret
  exact ⟨rfl, rfl⟩
theorem gadd_c (g : Nat) (w : World) (hs : Gone w g) : Calls Try.prog 11 #[.pointer (some ⟨g, 0, none⟩), .int .i64 0] w fun e w' => e = .returned (.bool false) ∧ w = w' := by
  have c1 := Blk.cell hs 1
  simp at c1
  clear hs
  go_enter Try.func11, Try.ntmps11
  go_wp2
  go_ret
  exact ⟨rfl, rfl⟩
theorem ghas_c (g : Nat) (w : World) (hs : Gone w g) : Calls Try.prog 13 #[.pointer (some ⟨g, 0, none⟩), .int .i64 0] w fun e w' => e = .returned (.bool false) ∧ w = w' := by
  have c1 := Blk.cell hs 1
  simp at c1
  clear hs
  go_enter Try.func13, Try.ntmps13
  go_wp2
  go_ret
  exact ⟨rfl, rfl⟩
end Go.Proofs.Ytnlepdffhgikdaa
