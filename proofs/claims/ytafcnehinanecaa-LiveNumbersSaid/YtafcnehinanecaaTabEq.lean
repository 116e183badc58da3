/- Rows of 256 bytes held against each other; two tables that are the same. -/
import Derived.Test.YtafcnehinanecaaTabSub
import Derived.ChangeKeysEq
namespace Go.Proofs.Ytafcnehinanecaa
open Go.RowKit
def bytesV (m : List Nat) : Array Value := (m.map fun n => Value.int .u8 (n : Nat)).toArray
theorem bytesV_size (m : List Nat) : (bytesV m).size = m.length := by unfold bytesV; simp
theorem bytesV_at (m : List Nat) {i : Nat} (hi : i < m.length) : (bytesV m)[i]? = some (.int .u8 (m[i] : Nat)) := by
  unfold bytesV
  rw [List.getElem?_toArray, List.getElem?_map, List.getElem?_eq_getElem hi]; rfl
theorem part_u8 (V : Array Value) (i : Nat) (n : Int) (h : V[i]? = some (.int .u8 n)) (w : World) : (part 5 V i).run Try.prog w = .ok (.int .u8 n) w := by
  have hA := Try.isAgg5
  simp [part, go_sem, h, hA]
theorem items_same (m : List Nat) (w : World) : ∀ is : List Nat, (∀ i ∈ is, i < m.length) → (Op.eqItems 9999 5 (Try.prog.cellsOf 5) (bytesV m) (bytesV m) is).run Try.prog w = .ok true w
  | [], _ => rfl
  | i :: is, h => by
    have hi := h i (by simp)
    have e1 : Try.prog.cellsOf 5 = 1 := by kernel_rfl
    have hp := part_u8 (bytesV m) i _ (bytesV_at m hi) w
    have ih := items_same m w is fun j hj => h j (by simp [hj])
    rw [e1] at ih ⊢
    simp only [Op.eqItems, Sem.run_bind, Nat.mul_one, hp, Result.andThen_ok, run_equalIn_int w 9998 5 .u8 .u8 _ _ Try.underlying5]
    simpa using ih
theorem bytes_same (m : List Nat) (h : m.length = 256) (w : World) : (Op.equalIn 10000 22 (.agg (bytesV m)) (.agg (bytesV m))).run Try.prog w = .ok true w := by
  obtain ⟨i, hi⟩ : ∃ i, Try.prog.info? 5 = some i := Option.isSome_iff_exists.1 (by kernel_rfl)
  rw [run_equalIn_array w 9999 _ _ Try.underlying22 hi]
  exact items_same m w _ fun j hj => by rw [h]; simpa using hj
theorem info_r : (Try.prog.info? 22).map (·.size) = some 256 := by kernel_rfl
theorem TbAt.remap {w : World} {b : Nat} {T : Tb} (h : TbAt w b T) : w.rangeAt b 2 (bytesV T.remap).toList := by
  intro j v hv
  have hv' : (bytesV T.remap)[j]? = some v := by simpa using hv
  have hj : j < T.remap.length := by
    have := (Array.getElem?_eq_some_iff.1 hv').1; rwa [bytesV_size] at this
  rw [bytesV_at _ hj] at hv'
  rw [← hv']; exact h.cells.2.2.1 j (by rw [← h.len]; exact hj)
attribute [irreducible] bytesV
theorem same_refl (l : List Int) (hl : l.length ≤ 1000000) (v v' : Value) (w : World) (h : IntsAt w 0 v l) (h' : IntsAt w 0 v' l) : Calls Try.prog 16 #[v, v'] w fun e w' => e = .returned (.bool true) ∧ Below w.heap.size w w' :=
  (same_c l l hl hl 0 0 v v' w h h').mono fun e w' ⟨he, n, hn⟩ => ⟨by rw [he, decide_eq_true rfl], by rw [hn]; exact below_dn (Below.refl _ _) n⟩
attribute [local irreducible] Calls
set_option maxHeartbeats 4000000 in
set_option maxRecDepth 100000 in
theorem same17_c (tv tu : Array Value) (T : Tb) (hn : T.next.length ≤ 100000) (hm : T.tag.length ≤ 1000000) (hr : ∀ r ∈ T.next, r.length ≤ 1000000) (w : World) (h : TbR w tv T) (h' : TbR w tu T) : Calls Try.prog 11 #[.agg tv, .agg tu] w fun e w' => e = .returned (.bool true) ∧ Below w.heap.size w w' := by
  have K1 := below_alloc (Below.refl w.heap.size w) (.cells tv 26)
  have W0 := Lib.hid (below_alloc K1 (.cells tu 26))
  have HT := Lib.hid (h.boxed.below (below_alloc (Below.refl _ _) (.cells tu 26)))
  have HU := Lib.hid (by have := (h'.below K1).boxed (w := w.alloc (.cells tv 26)) (tv := tu); rwa [World.size_alloc] at this)
  obtain ⟨c0, c1, cr, an, cn, at_, ct, c3, c4, hra, hta⟩ := HT.out.cells
  obtain ⟨d0, d1, dr, an', cn', at', ct', d3, d4, hrb, htb⟩ := HU.out.cells
  have SC := Lib.hid (fun w1 h1 h2 => same_refl T.tag hm (.slice at_ T.tag.length ct) (.slice at' T.tag.length ct') w1 h1 h2)
  clear h h' K1
  have RC := Lib.hid (fun i (hi : i < T.next.length) v v' w1 h1 h2 => same_refl (T.next[i]'hi) (hr _ (List.getElem_mem hi)) v v' w1 h1 h2)
  have HL := Lib.hid (show (Try.prog.info? 22).map (·.size) = some (bytesV T.remap).toList.length from by rw [Array.length_toList, bytesV_size, HT.out.len]; exact info_r)
  have EQ : ∀ w1, (Op.equalIn 10000 22 (.agg (bytesV T.remap)) (.agg (bytesV T.remap))).run Try.prog w1 = .ok true w1 := fun w1 => bytes_same _ HT.out.len w1
  have EQ2 : ∀ w1, (Op.equalIn 10000 22 (.agg (bytesV T.remap).toList.toArray) (.agg (bytesV T.remap).toList.toArray)).run Try.prog w1 = .ok true w1 := fun w1 => by rw [Array.toArray_toList]; exact EQ w1
  have R1 := Lib.hid HT.out.remap
  have R2 := Lib.hid HU.out.remap
  have HRA := Lib.hid hra
  have HRB := Lib.hid hrb
  have HTA := Lib.hid hta
  have HTB := Lib.hid htb
  clear cr dr hra hrb hta htb hr
  have hb1 := HU.out.lt
  go_enter Try.func11, Try.ntmps11
  go_upto_region 1 with fail
  generalize hwb : (w.alloc _).alloc _ = wb at *
  generalize hg : w.heap.size = g at *
  have W1 := Lib.hid (show Below w.heap.size w wb from by rw [hg]; exact W0.out)
  clear hwb hg W0
  generalize bytesV T.remap = RV at *
  go_wp2_with fail
  refine wp_load_mid 22 _ rfl g 2 rfl RV.toList _ R1.out Try.underlying22 rfl HL.out ?_
  go_wp2_with fail
  refine wp_load_mid 22 _ rfl (g + 1) 2 rfl RV.toList _ R2.out Try.underlying22 rfl HL.out ?_
  go_wp2_with fail
  refine (SC.out _ HTA.out HTB.out).mono ?_; rintro e w1 ⟨rfl, k1⟩
  clear c0 c1 c3 c4 d0 d1 d3 d4 EQ EQ2
  have W2 := Lib.hid k1
  clear k1
  go_wp2_with fail
  go_loopw [5] (fun j wx => ∃ k : Nat, k ≤ T.next.length ∧ j = .int .i64 k ∧ Below wb.heap.size wb wx) (fun j _ => T.next.length - (intOf j).toNat)
  case atStart => exact ⟨0, by omega, rfl, W2.out⟩
  case round =>
    clear W2
    obtain ⟨k, hk, rfl, hw⟩ := hrel
    have HW := Lib.hid hw
    obtain ⟨c0, c1, cr, an, cn, at_, ct, c3, c4, hra, hta⟩ := (HT.out.below hw).cells
    obtain ⟨d0, d1, dr, an', cn', at', ct', d3, d4, hrb, htb⟩ := (HU.out.below hw).cells
    clear cr dr hta htb c0 c1 d0 d1 c4 d4 hw
    by_cases hlt : k < T.next.length
    · have t1 : decide (k < T.next.length) = true := by simpa
      obtain ⟨b, off, A, c, rfl, hb, cr, hri⟩ := hra.at_ hlt
      obtain ⟨b', off', A', c', rfl, hb', dr, hri'⟩ := hrb.at_ hlt
      have RK := Lib.hid (RC.out k hlt)
      have HI := Lib.hid hri
      have HI' := Lib.hid hri'
      clear hra hrb hri hri'
      generalize T.next[k] = row at *
      have RX := Lib.hid (fun x : Ext wr => RK.out (.slice A row.length c) (.slice A' row.length c') x.v (HI.out.below x.h) (HI'.out.below x.h))
      go_upto_region 6 with fail
      have e1 : ∀ x : Ext wr, x.v.cell? ⟨g, 258, none⟩ = some (.slice (some ⟨b, off, none⟩) T.next.length cn) := fun x => x.cell c3
      have e2 : ∀ x : Ext wr, x.v.cell? ⟨g + 1, 258, none⟩ = some (.slice (some ⟨b', off', none⟩) T.next.length cn') := fun x => x.cell d3
      have e3 : ∀ x : Ext wr, x.v.cell? ⟨b, off + k, none⟩ = some (.slice A row.length c) := fun x => x.cell cr
      have e4 : ∀ x : Ext wr, x.v.cell? ⟨b', off' + k, none⟩ = some (.slice A' row.length c') := fun x => x.cell dr
      clear RC RK HI HI' R1 R2 HL SC
      refine wp_region_ext (by kernel_rfl) (by kernel_rfl) ?_
      repeat (go_big_quiet_step (first | (go_at_call 16; exact Calls.ext_of (RX.out _))))
      refine wpQuiet_nil ?_
      intro _ hw'
      obtain ⟨xq, hw''⟩ := hw'
      subst hw''
      have Y4 := Lib.hid (below_step HW.out xq.h)
      clear e1 e2 e3 e4 RX c3 d3 cr dr
      generalize xq.v = wy at *
      go_wp2_with fail
      go_roundw
      case rel => exact ⟨k + 1, by omega, by go_num, Y4.out⟩
      case measure => simp [intOf]; omega
    · have t1 : decide (k < T.next.length) = false := by simpa using hlt
      clear hra hrb
      go_wp2_with fail
      go_returns
      exact ⟨rfl, below_step W1.out HW.out⟩
end Go.Proofs.Ytafcnehinanecaa
