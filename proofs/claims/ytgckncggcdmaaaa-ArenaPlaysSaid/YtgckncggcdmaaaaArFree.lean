/- A region is freed; a cell is set, and read. -/
import Derived.Test.YtgckncggcdmaaaaArAlloc
import Derived.Lib.SliceRun
namespace Go.Proofs.Ytgckncggcdmaaaa
open Go.RowKit Go.Maps
/-- A run of noughts set one by one. -/
def zeroAt : List Int → Nat → Nat → List Int
  | cs, _, 0 => cs
  | cs, o, n + 1 => zeroAt (cs.set o 0) (o + 1) n
theorem zeroAt_get : ∀ (n : Nat) (cs : List Int) (o i : Nat), i < cs.length → (zeroAt cs o n)[i]? = if o ≤ i ∧ i < o + n then some 0 else cs[i]?
  | 0, cs, o, i, h => by unfold zeroAt; rw [if_neg (by omega)]
  | n + 1, cs, o, i, h => by
    unfold zeroAt
    rw [zeroAt_get n _ _ _ (by simpa using h)]
    by_cases h1 : o + 1 ≤ i ∧ i < o + 1 + n
    · rw [if_pos h1, if_pos (by omega)]
    · rw [if_neg h1]
      by_cases h2 : o = i
      · subst h2
        rw [if_pos (by omega), List.getElem?_set_self h]
      · rw [if_neg (by omega), List.getElem?_set_ne h2]
theorem zeroAt_len : ∀ (n : Nat) (cs : List Int) (o : Nat), (zeroAt cs o n).length = cs.length
  | 0, _, _ => rfl
  | n + 1, cs, o => by unfold zeroAt; rw [zeroAt_len n]; simp
theorem zeroAt_eq {cs : List Int} {b n : Nat} (h : b + n ≤ cs.length) : zeroAt cs b n = clearAt cs b n := by
  apply List.ext_getElem?
  intro i
  rcases Nat.lt_or_ge i cs.length with hi | hi
  · rw [zeroAt_get _ _ _ _ hi, clearAt_get h hi]
  · rw [List.getElem?_eq_none (by rw [zeroAt_len]; exact hi), List.getElem?_eq_none (by rw [clearAt_len h]; exact hi)]
theorem ints_set (cs : List Int) (o : Nat) (v : Int) : (ints cs).toArray.setIfInBounds o (.int .i64 v) = (ints (cs.set o v)).toArray := by
  unfold ints
  simp [List.map_set]
theorem Blk.zeros : ∀ (n : Nat) {w : World} {c o : Nat} {t : TypeId} {cs : List Int}, Blk w c t (ints cs).toArray → Blk (w.setCells c o (List.replicate n (.int .i64 0))) c t (ints (zeroAt cs o n)).toArray
  | 0, _, _, _, _, _, h => h
  | n + 1, w, c, o, t, cs, h => by
    rw [List.replicate_succ, World.setCells]
    exact Blk.zeros n ((h.set o (.int .i64 0)).cast (ints_set cs o 0))
theorem Only.cells {S : List Nat} {a : World} {c : Nat} : ∀ {vs : List Value} {w : World} {o : Nat}, Only S a w → c ∈ S → Only S a (w.setCells c o vs)
  | [], _, _, h, _ => h
  | v :: r, w, o, h, hc => by rw [World.setCells]; exact Only.cells (h.set (.inl hc) v) hc
set_option maxHeartbeats 1000000 in
set_option maxRecDepth 100000 in
theorem free_no (A : Ar) (id : Int) (hid : (Lit.int .i64 id).wf = true) (hf : findR A.rs id = none) (g c b : Nat) (mv : Value) (w : World) (hA : ArAt w g c b mv A) : Calls Try.prog 13 #[.pointer (some ⟨g, 0, none⟩), .int .i64 id] w fun e w' => e = .returned (.int .i64 7) ∧ Below w.heap.size w w' := by
  have FC := Lib.hid (find_no A id hid hf g c b mv w hA)
  clear hf hA hid
  go_enter Try.func13, Try.ntmps13
  go_wp2_with fail
  refine FC.out.mono ?_
  rintro e w1 ⟨rfl, h1⟩
  have H1 := Lib.hid h1
  clear h1
  go_wp2_with fail
  go_ret
  exact ⟨rfl, below_alloc H1.out _⟩
theorem free_none (id : Int) (w : World) : Calls Try.prog 13 #[.pointer none, .int .i64 id] w fun e w' => e = .returned (.int .i64 9) ∧ Below w.heap.size w w' := by
  go_enter Try.func13, Try.ntmps13
  go_wp2_with fail
  refine (find_none id w).mono ?_
  rintro e w1 ⟨rfl, h1⟩
  have H1 := Lib.hid h1
  clear h1
  go_wp2_with fail
  go_ret
  exact ⟨rfl, below_alloc H1.out _⟩
theorem free_fin {w1 wy wc w5 w6 w7 : World} {g c b : Nat} {mv : Value} {A : Ar} {r : Rg} {D : DataW Unit} {o5 : Obj} (hA : ArAt w1 g c b mv A) (h : A.ok) (hr : r ∈ A.rs) (hB : Below (w1.alloc o5).heap.size (w1.alloc o5) wy) (hO : Only [c] wy wc) (hR : Blk wc c 3 (ints (clearAt A.cs r.b r.n)).toArray)
    (h5 : Only [b] wc w5) (ho : w5.ownsMap Try.prog 3 rgR b A.rs.length (D.del (.int .i64 (r.id : Int)))) (hD : RsOf D A.rs) (h6 : Below w5.heap.size w5 w6) (h7 : Below (w6.setCell ⟨g, 4, none⟩ (.int .i64 ((A.size : Int) - A.used + r.n))).heap.size (w6.setCell ⟨g, 4, none⟩ (.int .i64 ((A.size : Int) - A.used + r.n))) w7) :
    ArAt w7 g c b mv (A.free r) ∧ Only [g, c, b] w1 w7 := by
  have o1 : Only [g, c, b] w1 wy := ((Only.refl _ w1).alloc o5).trans (Only.ofBelow _ hB)
  have o2 : Only [g, c, b] w1 wc := o1.trans (hO.mono (by simp))
  have o3 : Only [g, c, b] w1 w5 := o2.trans (h5.mono (by simp))
  have o4 : Only [g, c, b] w1 w6 := o3.trans (Only.ofBelow _ h6)
  have o6 := (o4.set (p := ⟨g, 4, none⟩) (.inl (by simp)) (.int .i64 ((A.size : Int) - A.used + r.n))).trans (Only.ofBelow _ h7)
  have hu := used_free h hr
  refine ⟨⟨?_, ?_, ?_, hA.gc, hA.gb, hA.cb⟩, o6⟩
  · have x1 := (((hA.head.alloc o5).below hB).only hO (by simpa using hA.gc)).only h5 (by simpa using hA.gb)
    refine (((x1.below h6).set 4 (.int .i64 ((A.size : Int) - A.used + r.n))).below h7).cast ?_
    have e : (A.size : Int) - A.used + r.n = (A.size : Int) - (A.free r).used := by omega
    rw [e]
    simp [Ar.free]
  · exact (((hR.only h5 (by simpa using hA.cb)).below h6).far (p := ⟨g, 4, none⟩) (Ne.symm hA.gc) _).below h7
  · refine ⟨D.del (.int .i64 (r.id : Int)), ?_, hD.del h.ids hr⟩
    have hx := own_map_tight (own_map_only (own_map_only (S := [g]) (own_map_only (S := []) ho (Only.ofBelow _ h6) (by simp)) ((Only.refl _ _).set (p := ⟨g, 4, none⟩) (.inl (by simp)) (.int .i64 ((A.size : Int) - A.used + r.n))) (by simpa using Ne.symm hA.gb)) (Only.ofBelow [] h7) (by simp))
    rw [(hD.del h.ids hr).size] at hx
    exact hx
set_option maxHeartbeats 2000000 in
set_option maxRecDepth 100000 in
theorem free_yes (A : Ar) (h : A.ok) (id : Int) (hid : (Lit.int .i64 id).wf = true) (r : Rg) (hf : findR A.rs id = some r) (g c b : Nat) (mp : Option Nat) (mo : Option Mt) (w : World) (hA : ArAt w g c b (mvOf mp) A) (hM : MoAt w mp mo) (hm : ∀ gm, mp = some gm → gm ≠ g ∧ gm ≠ c ∧ gm ≠ b) :
    Calls Try.prog 13 #[.pointer (some ⟨g, 0, none⟩), .int .i64 id] w fun e w' => e = .returned (.int .i64 0) ∧ ArAt w' g c b (mvOf mp) (A.free r) ∧ MoAt w' mp (mo.map fun m => (m.give r.n).1) ∧ Only ([g, c, b] ++ mp.toList) w w' := by
  have FC := Lib.hid (find_yes A id hid r hf g c b (mvOf mp) w hA)
  have hub := h.used_le
  have hsz := h.size
  obtain ⟨hr, hri⟩ := findR_some hf
  have hre := h.each r hr
  have H := Lib.hid h
  have HA := Lib.hid hA
  have HM := Lib.hid hM
  have HN := Lib.hid hm
  have HR := Lib.hid hr
  have hur := used_free h hr
  have KI := Lib.hid (keyI id hid)
  have GV := Lib.hid (fun (n : Int) (w : World) (h : MoAt w mp mo) => give_o mp mo n w h)
  clear h hA hM hm hf hid
  obtain ⟨ri, rb, rn⟩ := r
  simp only at hre hur hri ⊢
  subst hri
  go_enter Try.func13, Try.ntmps13
  go_wp2_with fail
  refine FC.out.mono ?_
  rintro e w1 ⟨rfl, h1⟩
  have HW := Lib.hid (HA.out.below h1)
  have H1 := Lib.hid h1
  clear h1
  have c1 := HW.out.head.cell 1
  simp at c1
  have hgl := HW.out.head.lt
  have hcl := HW.out.rows.lt
  have hB5 : Blk (w1.alloc (.cells #[.int .i64 (rb : Int), .int .i64 (rn : Int)] 62)) w1.heap.size 62 #[.int .i64 (rb : Int), .int .i64 (rn : Int)] := Blk.made _ _ _
  have hA5 := Lib.hid (HW.out.below ((Below.refl _ w1).alloc (Nat.le_refl _) (.cells #[.int .i64 (rb : Int), .int .i64 (rn : Int)] 62)))
  have hB5' := Lib.hid hB5
  have d1 : ∀ x : Ext (w1.alloc (.cells #[.int .i64 (rb : Int), .int .i64 (rn : Int)] 62)), x.v.cell? ⟨g, 1, none⟩ = some (.slice (some ⟨c, 0, none⟩) A.size A.size) := fun x => x.cell (by have := hA5.out.head.cell 1; simpa using this)
  have d2 : ∀ x : Ext (w1.alloc (.cells #[.int .i64 (rb : Int), .int .i64 (rn : Int)] 62)), x.v.cell? ⟨w1.heap.size, 0, none⟩ = some (.int .i64 (rb : Int)) := fun x => x.cell (by simp)
  have d3 : ∀ x : Ext (w1.alloc (.cells #[.int .i64 (rb : Int), .int .i64 (rn : Int)] 62)), x.v.cell? ⟨w1.heap.size, 1, none⟩ = some (.int .i64 (rn : Int)) := fun x => x.cell (by simp)
  have k1 : ((rb + rn : Nat) : Int) ≤ (A.size : Nat) := by omega
  have k2 : (rb : Int) < (A.size : Nat) := by omega
  clear hB5
  go_upto_region 4 with fail
  refine wp_region_ext_tail 12 (by kernel_rfl) (by kernel_rfl) ?_
  simp only [List.take_succ_cons, List.take_zero, List.drop_succ_cons, List.drop_zero]
  repeat (go_big_quiet_step (fail))
  refine wpQuiet_nil ?_
  intro _ hw'
  obtain ⟨xq, hw''⟩ := hw'
  subst hw''
  have hb := xq.h
  generalize xq.v = wy at *
  have HB := Lib.hid hb
  have hAy := Lib.hid (hA5.out.below hb)
  have hBy := Lib.hid (hB5'.out.below hb)
  clear hb d1 d2 d3 c1 hA5 hB5'
  have hrl : A.cs.length = A.size := H.out.len
  have hcl2 : ∀ ty, (Builtin.clear_ #[41] ty #[.slice (some ⟨c, rb, none⟩) rn (A.size - rb)]).run Try.prog wy = .ok (.tuple #[]) (wy.setCells c rb (List.replicate rn (.int .i64 0))) := fun ty =>
    Lib.run_clear_slice wy _ _ ty _ Try.underlying41 Try.zeroValue3 rfl rfl c rb rn _ (by omega) (fun j hj => by rw [hAy.out.rows.cell]; simp [ints, show rb + j < A.cs.length by omega]) (fun j hj => hAy.out.rows.free _)
  obtain ⟨wc, hwc⟩ : ∃ wc, wy.setCells c rb (List.replicate rn (.int .i64 0)) = wc := ⟨_, rfl⟩
  rw [hwc] at hcl2
  have HOc := Lib.hid (show Only [c] wy wc by rw [← hwc]; exact Only.cells (Only.refl _ _) (by simp))
  have HRc := Lib.hid (show Blk wc c 3 (ints (clearAt A.cs rb rn)).toArray by rw [← hwc, ← zeroAt_eq (by omega)]; exact Blk.zeros rn hAy.out.rows)
  have HGc := Lib.hid (hAy.out.head.only HOc.out (by simpa using HW.out.gc))
  have HTc := Lib.hid (hBy.out.only HOc.out (by simp; omega))
  obtain ⟨D, hown, hD⟩ := hAy.out.map
  have HD := Lib.hid hD
  have hownc := own_map_only hown HOc.out (by simpa using Ne.symm hAy.out.cb)
  have c2 := HGc.out.cell 2
  simp at c2
  clear hwc hown hD
  go_wp2_with (at_delete; refine wpList_delete_own _ rfl _ _ 57 3 rfl 62 law_int Try.underlying57 _ b A.rs.length D rfl hownc _ _ rfl KI.out ?_; intro w5 hown5 hturn5)
  have HO5 := Lib.hid (Only.ofGrown1 hturn5.grown)
  have HW5 := Lib.hid hown5
  have HG5 := Lib.hid (HGc.out.only HO5.out (by simpa using HW.out.gb))
  have HT5 := Lib.hid (HTc.out.only HO5.out (by simp; have := HW.out.map.lt; omega))
  have HR5 := Lib.hid (HRc.out.only HO5.out (by simpa using HW.out.cb))
  clear hown5 hturn5 hownc c2 hcl2
  go_frame
  have s5 : w1.heap.size < w5.heap.size := HT5.out.lt
  have g5 := HG5.out.lt
  have d4 : ∀ x : Ext w5, x.v.cell? ⟨g, 4, none⟩ = some (.int .i64 ((A.size : Int) - A.used)) := fun x => x.cell (by have := HG5.out.cell 4; simpa using this)
  have d5 : ∀ x : Ext w5, x.v.cell? ⟨w1.heap.size, 1, none⟩ = some (.int .i64 (rn : Int)) := fun x => x.cell (by have := HT5.out.cell 1; simpa using this)
  have d6 : ∀ x : Ext w5, x.v.frozen? ⟨g, 4, none⟩ = false := fun x => (x.free HG5.out.lt).trans (HG5.out.free 4)
  have d7 : ∀ x : Ext w5, g < x.v.heap.size := fun x => Nat.lt_of_lt_of_le g5 x.h.size
  go_upto_region 6 with fail
  refine wp_region_ext_tail 9 (by kernel_rfl) (by kernel_rfl) ?_
  simp only [List.take_succ_cons, List.take_zero, List.drop_succ_cons, List.drop_zero]
  repeat (go_big_quiet_step (fail))
  refine wpQuiet_nil ?_
  intro _ hw'
  obtain ⟨x6, hw''⟩ := hw'
  subst hw''
  have e4 := d4 x6
  have e6 := d6 x6
  have e7 := d7 x6
  have hb := x6.h
  clear d4 d5 d6 d7
  generalize x6.v = w6 at *
  have HB6 := Lib.hid hb
  clear hb
  have HG6 := Lib.hid ((HG5.out.below HB6.out).set 4 (.int .i64 ((A.size : Int) - A.used + rn)))
  have HT6 := Lib.hid ((HT5.out.below HB6.out).far (p := ⟨g, 4, none⟩) (by simp; have := HW.out.head.lt; omega) (.int .i64 ((A.size : Int) - A.used + rn)))
  have d0 : ∀ x : Ext (w6.setCell ⟨g, 4, none⟩ (.int .i64 ((A.size : Int) - A.used + rn))), x.v.cell? ⟨g, 0, none⟩ = some (mvOf mp) := fun x => x.cell (by have := HG6.out.cell 0; simpa using this)
  have d1 : ∀ x : Ext (w6.setCell ⟨g, 4, none⟩ (.int .i64 ((A.size : Int) - A.used + rn))), x.v.cell? ⟨w1.heap.size, 1, none⟩ = some (.int .i64 (rn : Int)) := fun x => x.cell (by have := HT6.out.cell 1; simpa using this)
  go_upto_region 7 with fail
  refine wp_region_ext_tail 6 (by kernel_rfl) (by kernel_rfl) ?_
  simp only [List.take_succ_cons, List.take_zero, List.drop_succ_cons, List.drop_zero]
  repeat (go_big_quiet_step (fail))
  refine wpQuiet_nil ?_
  intro _ hw'
  obtain ⟨x7, hw''⟩ := hw'
  subst hw''
  have hb := x7.h
  clear d0 d1 e4 e6 e7
  generalize x7.v = w7 at *
  have HB7 := Lib.hid hb
  clear hb
  have fin := free_fin HW.out H.out HR.out HB.out HOc.out HRc.out HO5.out HW5.out HD.out HB6.out HB7.out
  have FIN := Lib.hid fin
  clear fin
  have hMo : MoAt w7 mp mo := HM.out.only ((Only.ofBelow _ H1.out).trans FIN.out.2) (fun gm e => by have := HN.out gm e; simp; omega)
  go_wp2_with fail
  refine (GV.out rn w7 hMo).mono ?_
  rintro e w8 ⟨rr, rfl, h1, h2⟩
  have h3 := FIN.out.1.only h2 (fun hm => by rw [Option.mem_toList] at hm; exact (HN.out g hm).1 rfl) (fun hm => by rw [Option.mem_toList] at hm; exact (HN.out c hm).2.1 rfl) (fun hm => by rw [Option.mem_toList] at hm; exact (HN.out b hm).2.2 rfl)
  have H3 := Lib.hid h3
  have H8 := Lib.hid h1
  have H9 := Lib.hid h2
  clear h1 h2 h3 hMo
  go_wp2_with fail
  go_ret
  exact ⟨rfl, H3.out, H8.out, (((Only.ofBelow [g, c, b] H1.out).trans FIN.out.2).mono (fun x hx => by simp at hx ⊢; rcases hx with h | h | h <;> simp [h])).trans (H9.out.mono (fun x hx => by simp [hx]))⟩
end Go.Proofs.Ytgckncggcdmaaaa
