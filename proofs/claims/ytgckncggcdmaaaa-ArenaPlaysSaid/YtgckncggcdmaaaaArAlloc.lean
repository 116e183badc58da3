/- The arena hands a region out. -/
import Derived.Test.YtgckncggcdmaaaaArGap
import Derived.Test.YtgckncggcdmaaaaMeter
namespace Go.Proofs.Ytgckncggcdmaaaa
open Go.RowKit Go.Maps
def MoAt (w : World) : Option Nat → Option Mt → Prop
  | none, none => True
  | some g, some m => MtAt w g m ∧ m.ok
  | _, _ => False
theorem MoAt.only {S : List Nat} {w w' : World} {mp : Option Nat} {mo : Option Mt} (h : MoAt w mp mo) (k : Only S w w') (hg : ∀ g, mp = some g → g ∉ S) : MoAt w' mp mo := by
  match mp, mo, h with
  | none, none, _ => trivial
  | some g, some m, h => exact ⟨Blk.only h.1 k (hg g rfl), h.2⟩
theorem MoAt.below {w w' : World} {mp : Option Nat} {mo : Option Mt} (h : MoAt w mp mo) (k : Below w.heap.size w w') : MoAt w' mp mo := h.only (Only.ofBelow [] k) (by simp)
theorem give_o (mp : Option Nat) (mo : Option Mt) (n : Int) (w : World) (h : MoAt w mp mo) : Calls Try.prog 30 #[mvOf mp, .int .i64 n] w fun e w' => ∃ r, e = .returned (.bool r) ∧ MoAt w' mp (mo.map fun m => (m.give n).1) ∧ Only mp.toList w w' := by
  match mp, mo, h with
  | none, none, _ =>
    refine (give_nil n w).mono ?_
    rintro e w' ⟨rfl, rfl⟩
    exact ⟨_, rfl, trivial, Only.refl _ _⟩
  | some g, some m, h =>
    refine (give_c m h.2 n g w h.1).mono ?_
    rintro e w' ⟨rfl, h1, h2⟩
    exact ⟨_, rfl, ⟨h1, Mt.give_ok h.2 n⟩, h2⟩
theorem alloc_fin {W wy w3 : World} {g c b base n : Nat} {mv : Value} {A : Ar} {D : DataW Unit} (hA : ArAt W g c b mv A) (h : A.ok) (v3 : Value) (e3 : v3 = .int .i64 ((A.last + 1 : Nat) : Int))
    (hB : Below (W.setCell ⟨g, 3, none⟩ v3).heap.size (W.setCell ⟨g, 3, none⟩ v3) wy) (hgr : wy.grownBy w3 (some b)) (kl : Lit) (ek : kl = .int .i64 ((A.last + 1 : Nat) : Int)) (ho : w3.ownsMap Try.prog 3 rgR b (A.rs.length + 1) (D.put kl (rgD (base, n)))) (hD : RsOf D A.rs)
    (v4 : Value) (e4 : v4 = .int .i64 ((A.size : Int) - A.used - n)) :
    ArAt (w3.setCell ⟨g, 4, none⟩ v4) g c b mv (A.alloc base n) ∧ Only [g, b] W (w3.setCell ⟨g, 4, none⟩ v4) := by
  subst e3 e4 ek
  have o1 : Only [g, b] W (W.setCell ⟨g, 3, none⟩ (.int .i64 ((A.last + 1 : Nat) : Int))) := (Only.refl _ _).set (.inl (by simp)) _
  have o2 : Only [g, b] W wy := o1.trans (Only.ofBelow _ hB)
  have o3 : Only [g, b] W w3 := o2.trans ((Only.ofGrown1 hgr).mono (by simp))
  refine ⟨⟨?_, ?_, ?_, hA.gc, hA.gb, hA.cb⟩, o3.set (.inl (by simp)) _⟩
  · have h1 := hA.head.set 3 (.int .i64 ((A.last + 1 : Nat) : Int))
    have h2 := (h1.below hB).only (Only.ofGrown1 hgr) (by simpa using hA.gb)
    refine (h2.set 4 _).cast ?_
    rw [used_alloc]
    simp [Ar.alloc]
    omega
  · have h1 := hA.rows.far (p := ⟨g, 3, none⟩) (Ne.symm hA.gc) (.int .i64 ((A.last + 1 : Nat) : Int))
    exact ((h1.below hB).only (Only.ofGrown1 hgr) (by simpa using hA.cb)).far (Ne.symm hA.gc) _
  · refine ⟨D.put (.int .i64 ((A.last + 1 : Nat) : Int)) (rgD (base, n)), ?_, ?_⟩
    · refine own_map_only (S := [g]) ?_ ((Only.refl _ _).set (.inl (by simp)) _) (by simpa using Ne.symm hA.gb)
      have := (insR_perm ⟨A.last + 1, base, n⟩ A.rs).length_eq
      rw [show (A.alloc base n).rs.length = A.rs.length + 1 from this]
      exact ho
    · exact hD.put (x := ⟨A.last + 1, base, n⟩) (fun r hr e => by have := (h.each r hr).2.2.2; simp only at e; omega)
set_option maxHeartbeats 1000000 in
set_option maxRecDepth 100000 in
theorem alloc_arg (p : Addr) (n : Int) (hn : n < 1) (w : World) : Calls Try.prog 11 #[.pointer (some p), .int .i64 n] w fun e w' => e = .returned (.tuple #[.int .i64 0, .int .i64 1]) ∧ w = w' := by
  have t1 : decide (n < 1) = true := by simpa using hn
  go_enter Try.func11, Try.ntmps11
  go_wp2
  go_ret2
  exact ⟨rfl, rfl⟩
theorem alloc_none (n : Int) (w : World) : Calls Try.prog 11 #[.pointer none, .int .i64 n] w fun e w' => e = .returned (.tuple #[.int .i64 0, .int .i64 9]) ∧ w = w' := by
  go_enter Try.func11, Try.ntmps11
  go_wp2
  go_ret2
  exact ⟨rfl, rfl⟩
set_option maxHeartbeats 1000000 in
set_option maxRecDepth 100000 in
theorem alloc_full (A : Ar) (h : A.ok) (n : Nat) (hn : 1 ≤ n) (hn2 : n ≤ 9223372036854775807) (hg : gapL A.rs 0 A.size n = none) (g c b : Nat) (mv : Value) (w : World) (hA : ArAt w g c b mv A) : Calls Try.prog 11 #[.pointer (some ⟨g, 0, none⟩), .int .i64 n] w fun e w' => e = .returned (.tuple #[.int .i64 0, .int .i64 3]) ∧ Below w.heap.size w w' := by
  have GC := gap_c A h n g c b mv w hA
  rw [show GapV A.rs 0 A.size n = -1 by unfold GapV; rw [hg]] at GC
  have GC' := Lib.hid GC
  have t1 : decide ((n : Int) < 1) = false := by simp; omega
  have hud : undef = Value.tuple #[] := rfl
  clear h hA hg GC
  go_enter Try.func11, Try.ntmps11
  go_wp2_with fail
  refine GC'.out.mono ?_
  rintro e w1 ⟨rfl, h1⟩
  have H1 := Lib.hid h1
  clear h1
  go_wp2_with fail
  go_ret2
  exact ⟨rfl, H1.out⟩
set_option maxHeartbeats 1000000 in
set_option maxRecDepth 100000 in
theorem alloc_no (A : Ar) (h : A.ok) (n base : Nat) (hn : 1 ≤ n) (hn2 : n ≤ 9223372036854775807) (hg : gapL A.rs 0 A.size n = some base) (g c b gm : Nat) (m m' : Mt) (hm : m.ok) (hr : m.take n = (m', false)) (w : World) (hA : ArAt w g c b (mvOf (some gm)) A) (hM : MtAt w gm m) : Calls Try.prog 11 #[.pointer (some ⟨g, 0, none⟩), .int .i64 n] w fun e w' => e = .returned (.tuple #[.int .i64 0, .int .i64 3]) ∧ MtAt w' gm m' ∧ Only [gm] w w' := by
  have GC := gap_c A h n g c b _ w hA
  rw [show GapV A.rs 0 A.size n = base by unfold GapV; rw [hg]] at GC
  have GC' := Lib.hid GC
  have t1 : decide ((n : Int) < 1) = false := by simp; omega
  have t2 : decide ((base : Int) < 0) = false := by simp
  have HA := Lib.hid hA
  have HM := Lib.hid hM
  clear h hA hg GC hM
  go_enter Try.func11, Try.ntmps11
  go_wp2_with fail
  refine GC'.out.mono ?_
  rintro e w1 ⟨rfl, h1⟩
  have c0 := (HA.out.below h1).head.cell 0
  simp [mvOf] at c0
  have TK := Lib.hid (take_r hr hm (Blk.below HM.out h1))
  have H1 := Lib.hid h1
  clear h1 hr hm
  go_wp2_with fail
  refine TK.out.mono ?_
  rintro e w2 ⟨rfl, h2, h3⟩
  have H2 := Lib.hid h2
  have H3 := Lib.hid h3
  clear h2 h3
  go_wp2_with fail
  go_ret2
  exact ⟨rfl, H2.out, (Only.ofBelow _ H1.out).trans H3.out⟩
set_option maxHeartbeats 2000000 in
set_option maxRecDepth 100000 in
theorem alloc_nil (A : Ar) (h : A.ok) (hl : A.last ≤ 1000000000) (n base : Nat) (hn : 1 ≤ n) (hn2 : n ≤ 9223372036854775807) (hg : gapL A.rs 0 A.size n = some base) (g c b : Nat) (w : World) (hA : ArAt w g c b (mvOf none) A) : Calls Try.prog 11 #[.pointer (some ⟨g, 0, none⟩), .int .i64 n] w fun e w' => e = .returned (.tuple #[.int .i64 ((A.last + 1 : Nat) : Int), .int .i64 0]) ∧ ArAt w' g c b (mvOf none) (A.alloc base n) ∧ Only [g, b] w w' := by
  have GC := gap_c A h n g c b _ w hA
  rw [show GapV A.rs 0 A.size n = base by unfold GapV; rw [hg]] at GC
  have GC' := Lib.hid GC
  have hub := h.used_le
  have hsz := h.size
  have hlr := len_rs h
  obtain ⟨_, hbn, _⟩ := gapL_some h.sorted (fun r hr => ⟨Nat.zero_le _, (h.each r hr).2.1⟩) hg
  have t1 : decide ((n : Int) < 1) = false := by simp; omega
  have t2 : decide ((base : Int) < 0) = false := by simp
  have hud : undef = Value.tuple #[] := rfl
  have HA := Lib.hid hA
  have H := Lib.hid h
  clear h hA hg GC
  go_enter Try.func11, Try.ntmps11
  go_wp2_with fail
  refine GC'.out.mono ?_
  rintro e w1 ⟨rfl, h1⟩
  have HW := Lib.hid (HA.out.below h1)
  have c0 := HW.out.head.cell 0
  simp [mvOf] at c0
  have H1 := Lib.hid h1
  clear h1
  have KI := Lib.hid (keyI ((A.last : Int) + 1) (wfI (by omega) (by omega)))
  have c3 := HW.out.head.cell 3
  have c4 := HW.out.head.cell 4
  have f3 := HW.out.head.free 3
  have hx := HW.out.head.set 3 (.int .i64 ((A.last + 1 : Nat) : Int))
  simp at c3
  have d2 : ∀ x : Ext (w1.setCell ⟨g, 3, none⟩ (.int .i64 ((A.last : Int) + 1))), x.v.cell? ⟨g, 2, none⟩ = some (.map (some b)) := fun x => x.cell (by have := hx.cell 2; simpa using this)
  have d3 : ∀ x : Ext (w1.setCell ⟨g, 3, none⟩ (.int .i64 ((A.last : Int) + 1))), x.v.cell? ⟨g, 3, none⟩ = some (.int .i64 ((A.last : Int) + 1)) := fun x => x.cell (by have := hx.cell 3; simpa using this)
  have HX := Lib.hid hx
  clear hx c4
  go_upto_region 9 with fail
  refine wp_region_ext_tail 11 (by kernel_rfl) (by kernel_rfl) ?_
  simp only [List.take_succ_cons, List.take_zero, List.drop_succ_cons, List.drop_zero]
  repeat (go_big_quiet_step (fail))
  refine wpQuiet_nil ?_
  intro _ hw'
  obtain ⟨xq, hw''⟩ := hw'
  subst hw''
  have hb := xq.h
  generalize xq.v = wy at *
  have HB := Lib.hid hb
  obtain ⟨D, hown, hD⟩ := HW.out.map
  have ho2 : wy.ownsMap Try.prog 3 rgR b A.rs.length D := own_map_only (S := []) (own_map_only (S := [g]) hown ((Only.refl _ _).set (.inl (by simp)) _) (by simpa using Ne.symm HW.out.gb)) (Only.ofBelow _ HB.out) (by simp)
  have HD := Lib.hid hD
  clear hb d2 d3 c3 f3 hown hD
  refine wpList_mapUpdate_own _ rfl _ _ _ 57 rfl 3 62 law_int Try.underlying57 _ b A.rs.length D rfl ho2 ?q1 _ _ (.int .i64 ((A.last : Int) + 1)) rfl rfl ?q2 (rgD (base, n)) [] rfl ?_
  case q1 => unfold maxLen; omega
  case q2 => exact KI.out
  intro w3 hown3 hgr3
  have HG3 := Lib.hid hgr3
  have HO3 := Lib.hid hown3
  have hx3 := (HX.out.below HB.out).only (Only.ofGrown1 hgr3) (by simpa using HW.out.gb)
  have e4 := hx3.cell 4
  have e3 := hx3.cell 3
  have f4 := hx3.free 4
  simp at e4 e3
  clear hown3 hgr3 hx3
  go_wp2_with fail
  go_ret2
  obtain ⟨a1, a2⟩ := alloc_fin HW.out H.out _ (by simp) HB.out HG3.out _ (by simp) HO3.out HD.out (.int .i64 ((A.size : Int) - A.used - n)) rfl
  exact ⟨by simp, a1, (Only.ofBelow _ H1.out).trans a2⟩
set_option maxHeartbeats 2000000 in
set_option maxRecDepth 100000 in
theorem alloc_yes (A : Ar) (h : A.ok) (hl : A.last ≤ 1000000000) (n base : Nat) (hn : 1 ≤ n) (hn2 : n ≤ 9223372036854775807) (hg : gapL A.rs 0 A.size n = some base) (g c b gm : Nat) (m m' : Mt) (hm : m.ok) (hr : m.take n = (m', true)) (w : World) (hA : ArAt w g c b (mvOf (some gm)) A) (hM : MtAt w gm m) (hgm : gm ≠ g ∧ gm ≠ c ∧ gm ≠ b) : Calls Try.prog 11 #[.pointer (some ⟨g, 0, none⟩), .int .i64 n] w fun e w' => e = .returned (.tuple #[.int .i64 ((A.last + 1 : Nat) : Int), .int .i64 0]) ∧ ArAt w' g c b (mvOf (some gm)) (A.alloc base n) ∧ MtAt w' gm m' ∧ Only [g, b, gm] w w' := by
  have GC := gap_c A h n g c b _ w hA
  rw [show GapV A.rs 0 A.size n = base by unfold GapV; rw [hg]] at GC
  have GC' := Lib.hid GC
  have hub := h.used_le
  have hsz := h.size
  have hlr := len_rs h
  obtain ⟨_, hbn, _⟩ := gapL_some h.sorted (fun r hr => ⟨Nat.zero_le _, (h.each r hr).2.1⟩) hg
  have t1 : decide ((n : Int) < 1) = false := by simp; omega
  have t2 : decide ((base : Int) < 0) = false := by simp
  have HA := Lib.hid hA
  have HM := Lib.hid hM
  have H := Lib.hid h
  have HN := Lib.hid hgm
  clear h hA hg GC hM hgm
  go_enter Try.func11, Try.ntmps11
  go_wp2_with fail
  refine GC'.out.mono ?_
  rintro e w1 ⟨rfl, h1⟩
  have c0 := (HA.out.below h1).head.cell 0
  simp [mvOf] at c0
  have TK := Lib.hid (take_r hr hm (Blk.below HM.out h1))
  have H1 := Lib.hid h1
  clear h1 hr hm
  go_wp2_with fail
  refine TK.out.mono ?_
  rintro e w2 ⟨rfl, h2, h3⟩
  have H2 := Lib.hid h2
  have H3 := Lib.hid h3
  have HW := Lib.hid ((HA.out.below H1.out).only h3 (by simpa using Ne.symm HN.out.1) (by simpa using Ne.symm HN.out.2.1) (by simpa using Ne.symm HN.out.2.2))
  clear h2 h3 c0
  have KI := Lib.hid (keyI ((A.last : Int) + 1) (wfI (by omega) (by omega)))
  have c3 := HW.out.head.cell 3
  have c4 := HW.out.head.cell 4
  have f3 := HW.out.head.free 3
  have hx := HW.out.head.set 3 (.int .i64 ((A.last + 1 : Nat) : Int))
  simp at c3
  have d2 : ∀ x : Ext (w2.setCell ⟨g, 3, none⟩ (.int .i64 ((A.last : Int) + 1))), x.v.cell? ⟨g, 2, none⟩ = some (.map (some b)) := fun x => x.cell (by have := hx.cell 2; simpa using this)
  have d3 : ∀ x : Ext (w2.setCell ⟨g, 3, none⟩ (.int .i64 ((A.last : Int) + 1))), x.v.cell? ⟨g, 3, none⟩ = some (.int .i64 ((A.last : Int) + 1)) := fun x => x.cell (by have := hx.cell 3; simpa using this)
  have HX := Lib.hid hx
  clear hx c4
  go_upto_region 9 with fail
  refine wp_region_ext_tail 11 (by kernel_rfl) (by kernel_rfl) ?_
  simp only [List.take_succ_cons, List.take_zero, List.drop_succ_cons, List.drop_zero]
  repeat (go_big_quiet_step (fail))
  refine wpQuiet_nil ?_
  intro _ hw'
  obtain ⟨xq, hw''⟩ := hw'
  subst hw''
  have hb := xq.h
  generalize xq.v = wy at *
  have HB := Lib.hid hb
  obtain ⟨D, hown, hD⟩ := HW.out.map
  have ho2 : wy.ownsMap Try.prog 3 rgR b A.rs.length D := own_map_only (S := []) (own_map_only (S := [g]) hown ((Only.refl _ _).set (.inl (by simp)) _) (by simpa using Ne.symm HW.out.gb)) (Only.ofBelow _ HB.out) (by simp)
  have HD := Lib.hid hD
  clear hb d2 d3 c3 f3 hown hD
  refine wpList_mapUpdate_own _ rfl _ _ _ 57 rfl 3 62 law_int Try.underlying57 _ b A.rs.length D rfl ho2 ?q1 _ _ (.int .i64 ((A.last : Int) + 1)) rfl rfl ?q2 (rgD (base, n)) [] rfl ?_
  case q1 => unfold maxLen; omega
  case q2 => exact KI.out
  intro w3 hown3 hgr3
  have HG3 := Lib.hid hgr3
  have HO3 := Lib.hid hown3
  have hx3 := (HX.out.below HB.out).only (Only.ofGrown1 hgr3) (by simpa using HW.out.gb)
  have e4 := hx3.cell 4
  have e3 := hx3.cell 3
  have f4 := hx3.free 4
  simp at e4 e3
  clear hown3 hgr3 hx3
  go_wp2_with fail
  go_ret2
  obtain ⟨a1, a2⟩ := alloc_fin HW.out H.out _ (by simp) HB.out HG3.out _ (by simp) HO3.out HD.out (.int .i64 ((A.size : Int) - A.used - n)) rfl
  exact ⟨by simp, a1, Blk.only H2.out a2 (by simpa using ⟨HN.out.1, HN.out.2.2⟩), ((Only.ofBelow [g, b, gm] H1.out).trans (H3.out.mono (by simp))).trans (a2.mono (by simp))⟩
end Go.Proofs.Ytgckncggcdmaaaa
