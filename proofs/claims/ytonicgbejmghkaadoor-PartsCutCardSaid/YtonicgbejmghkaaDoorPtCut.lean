/- The walk of Cut. -/
import Derived.Test.YtonicgbejmghkaaDoorPtNumW
import Derived.Test.YtonicgbejmghkaaDoorPtPure2
namespace Go.Proofs.YtonicgbejmghkaaDoor
open Go.RowKit
/-- The bytes of the classes. -/
def clsSets (l : List (Nat → Nat)) : List (Nat → Nat) := (reps (same l) 256).map fun a => (cutAll l).getD (keyS (cutAll l) (cutAll l).length a) zeroS
theorem isCls_sets (l : List (Nat → Nat)) (ho : ∀ S ∈ l, okS S) : IsCls l (clsSets l) := isCls_reps (part_all l ho)
/-- The parts that some sets cut. -/
def PtOf (w : World) (p : Nat) (l : List (Nat → Nat)) : Prop := PtR w p ((List.range 256).map (cl l)) (clsSets l)
theorem PtOf.below {w w' : World} {p : Nat} {l : List (Nat → Nat)} (h : PtOf w p l) (k : Below w.heap.size w w') : PtOf w' p l := PtR.below h k
theorem SetsR.form {w : World} {v : Value} {l : List (Nat → Nat)} (h : SetsR w v l) : ∃ ao cap, v = .slice ao l.length cap := by
  obtain ⟨ao, cap, e, _⟩ := h
  exact ⟨ao, cap, e⟩
/-- The cells of one of the sets. -/
theorem SetsR.at_ {w : World} {ao : Option Addr} {n cap : Nat} {l : List (Nat → Nat)} (h : SetsR w (.slice ao n cap) l) {i : Nat} (hi : i < l.length) : ∃ b off, ao = some ⟨b, off, none⟩ ∧ b < w.heap.size ∧ w.cell? ⟨b, off + i * 4, none⟩ = some (.int .u64 (l[i] 0)) ∧ w.cell? ⟨b, off + i * 4 + 1, none⟩ = some (.int .u64 (l[i] 1)) ∧ w.cell? ⟨b, off + i * 4 + 2, none⟩ = some (.int .u64 (l[i] 2)) ∧ w.cell? ⟨b, off + i * 4 + 3, none⟩ = some (.int .u64 (l[i] 3)) := by
  obtain ⟨ao', cap', e, h⟩ := h
  cases e
  obtain ⟨b, off, e, hb, hc⟩ := h (by omega)
  exact ⟨b, off, e, hb, hc i hi⟩
theorem Blk.four {w : World} {g : Nat} {t : TypeId} {S : Nat → Nat} (h : Blk w g t (setCs S)) : w.cell? ⟨g, 0, none⟩ = some (.int .u64 (S 0)) ∧ w.cell? ⟨g, 1, none⟩ = some (.int .u64 (S 1)) ∧ w.cell? ⟨g, 2, none⟩ = some (.int .u64 (S 2)) ∧ w.cell? ⟨g, 3, none⟩ = some (.int .u64 (S 3)) := ⟨h.cell 0, h.cell 1, h.cell 2, h.cell 3⟩
theorem own_eq {w : World} {B : Nat} {v : Value} {K K' : List (Nat → Nat)} (h : w.ownsRow B 35 4 v K.length (setCsL K)) (e : K = K') : w.ownsRow B 35 4 v K'.length (setCsL K') := e ▸ h
theorem below_undrew {w w1 : World} (k : Below w.drew.heap.size w.drew w1) : Below w.heap.size w w1 := ⟨k.os, k.tape, k.output, k.size, k.block⟩
theorem two_at {w : World} {g : Nat} {t : TypeId} {E : List (Nat → Nat)} (h : Blk w g t (setCsL E).toArray) {j : Nat} (hj : j < E.length) : w.cell? ⟨g, j * 4, none⟩ = some (.int .u64 (E[j] 0)) ∧ w.cell? ⟨g, j * 4 + 1, none⟩ = some (.int .u64 (E[j] 1)) ∧ w.cell? ⟨g, j * 4 + 2, none⟩ = some (.int .u64 (E[j] 2)) ∧ w.cell? ⟨g, j * 4 + 3, none⟩ = some (.int .u64 (E[j] 3)) := by
  obtain ⟨c0, c1, c2, c3⟩ := setCsL_at E j hj
  refine ⟨?_, ?_, ?_, ?_⟩ <;> rw [h.cell, List.getElem?_toArray] <;> assumption
attribute [local irreducible] Calls
set_option maxHeartbeats 2000000 in
set_option maxRecDepth 100000 in
theorem cut_c (l : List (Nat → Nat)) (ho : ∀ S ∈ l, okS S) (hl : l.length ≤ 1000) (v : Value) (w : World) (hv : SetsR w v l) : Calls Tryd.prog 9 #[v] w fun e w' => ∃ p, e = .returned (.pointer (some ⟨p, 0, none⟩)) ∧ w.heap.size ≤ p ∧ PtOf w' p l ∧ Below w.heap.size w w' := by
  have HV := Lib.hid hv
  have HOK := Lib.hid ho
  obtain ⟨i0, hti, hz0, hz1, hz2⟩ := info_parts info_setz
  obtain ⟨ao, cap, rfl, _⟩ := hv
  have OC := Lib.hid (fun w1 => of_c 0 255 (by decide) (by decide) w1)
  rw [show ofS 0 (255 + 1 - 0) = ofS 0 256 from rfl] at OC
  have K0 := Lib.hid (show setCsL (cutAll []) = [.int .u64 (ofS 0 256 0), .int .u64 (ofS 0 256 1), .int .u64 (ofS 0 256 2), .int .u64 (ofS 0 256 3)] from rfl)
  unfold setV at OC
  generalize ofS 0 256 = W at *
  clear ho
  go_enter Tryd.func9, Tryd.ntmps9
  go_wp2_with fail
  refine (OC.out _).mono ?_; rintro e w1 ⟨rfl, k1⟩
  have W1 := Lib.hid (below_alloc k1 (.cells #[.int .u64 (W 0), .int .u64 (W 1), .int .u64 (W 2), .int .u64 (W 3)] 35))
  have hs1 := k1.size
  clear k1 OC
  go_wp2_with fail
  have V1 := Lib.hid (below_alloc W1.out (.cells #[.int .u64 (W 0), .int .u64 (W 1), .int .u64 (W 2), .int .u64 (W 3)] 35))
  go_loopw [4, 17] (fun v4 j wx => ∃ i : Nat, i ≤ l.length ∧ j = .int .i64 i ∧ wx.ownsRow (w.heap.size + 1) 35 4 v4 (cutAll (l.take i)).length (setCsL (cutAll (l.take i))) ∧ Below w.heap.size w wx ∧ w.heap.size + 1 ≤ wx.heap.size) (fun _ j _ => l.length - (intOf j).toNat)
  case atStart =>
    have L0 := World.ownsRow_lit (base := w.heap.size + 1) (size := 4) (e := 35) (w1.alloc (.cells #[.int .u64 (W 0), .int .u64 (W 1), .int .u64 (W 2), .int .u64 (W 3)] 35)) #[.int .u64 (W 0), .int .u64 (W 1), .int .u64 (W 2), .int .u64 (W 3)] 1 (by rw [World.size_alloc]; omega) (by unfold maxLen; omega) rfl
    rw [World.size_alloc] at L0
    exact ⟨0, by omega, rfl, by rw [List.take_zero, K0.out]; exact L0, V1.out, by rw [World.size_alloc, World.size_alloc]; omega⟩
  case round =>
    clear V1 W1 K0
    obtain ⟨i, hi, rfl, ho, hw, hwr⟩ := hrel
    have SK := Lib.hid (own_sets ho)
    obtain ⟨ao4, cap4, rfl⟩ := SK.out.form
    have hok : ∀ S ∈ cutAll (l.take i), okS S := (part_all _ (fun S hS => HOK.out S (List.mem_of_mem_take hS))).ok
    have hkl : (cutAll (l.take i)).length ≤ 256 := cutAll_len _ (fun S hS => HOK.out S (List.mem_of_mem_take hS))
    by_cases hlt : i < l.length
    · have t1 : decide (i < l.length) = true := by simp; omega
      obtain ⟨b, off, rfl, hb, c0, c1, c2, c3⟩ := (HV.out.below hw).at_ hlt
      have CT := Lib.hid (cutAll_take hlt)
      have hal : okS l[i] := HOK.out _ (List.getElem_mem hlt)
      have hkn : (cutSets (cutAll (l.take i)) l[i]).length ≤ 256 := by
        rw [← cutAll_take hlt]
        exact cutAll_len _ (fun S hS => HOK.out S (List.mem_of_mem_take hS))
      generalize l[i] = a at *
      generalize cutAll (l.take i) = K at *
      have hwb := hw.size
      have SS := Lib.hid (SK.out.below ((Below.refl _ _).alloc (Nat.le_refl _) (.cells (setCs a) 35)))
      have BA := Lib.hid (Blk.made wr 35 (setCs a))
      have HW := Lib.hid (below_alloc hw (.cells (setCs a) 35))
      have NC := Lib.hid (fun w1 => show Calls Tryd.prog 22 #[setV a] w1 fun e w' => e = .returned (setV (notS a)) ∧ Below w1.heap.size w1 w' from not_c a hal w1)
      clear ho hw SK
      unfold setCs at SS BA HW
      go_wp2_with fail
      generalize hws : wr.alloc _ = ws at *
      have hsz : ws.heap.size = wr.heap.size + 1 := by rw [← hws]; simp
      clear hws
      generalize hg6 : wr.heap.size = g6 at *
      go_loopw [7, 23] (fun v7 j wx => ∃ k : Nat, k ≤ K.length ∧ j = .int .i64 k ∧ wx.ownsRow ws.heap.size 35 4 v7 (nx K a k).length (setCsL (nx K a k)) ∧ Below ws.heap.size ws wx) (fun _ j _ => K.length - (intOf j).toNat)
      case atStart => exact ⟨0, by omega, rfl, World.ownsRow_nil _ _ _ _, Below.refl _ _⟩
      case round =>
        obtain ⟨k, hk, rfl, ho, hw⟩ := hrel
        obtain ⟨ao7, cap7, rfl, _⟩ := own_form ho
        by_cases hlk : k < K.length
        · have t2 : decide (k < K.length) = true := by simp; omega
          obtain ⟨b2, off2, rfl, hb2, d0, d1, d2, d3⟩ := (SS.out.below hw).at_ hlk
          have NX := Lib.hid (nx_succ (a := a) hlk)
          have hSl := hok _ (List.getElem_mem hlk)
          have hnl := nx_len K a k
          have hnl2 := nx_len K a (k + 1)
          generalize K[k] = S at *
          have ACX := Lib.hid (fun w1 => show Calls Tryd.prog 21 #[setV S, setV a] w1 fun e w' => e = .returned (setV (andS S a)) ∧ Below w1.heap.size w1 w' from and_c S a hSl hal w1)
          have ACY := Lib.hid (fun w1 => show Calls Tryd.prog 21 #[setV S, setV (notS a)] w1 fun e w' => e = .returned (setV (andS S (notS a))) ∧ Below w1.heap.size w1 w' from and_c S (notS a) hSl not_ok w1)
          have CO := Lib.hid (cutOne_eq S a)
          have okX : okS (andS S a) := and_ok hSl
          have okY : okS (andS S (notS a)) := and_ok hSl
          generalize andS S (notS a) = Y at *
          generalize andS S a = X at *
          have NC' := Lib.hid NC.out
          generalize notS a = T at *
          unfold setV at ACX ACY NC'
          have H9 := Lib.hid (Blk.made wr 35 (setCs S))
          have H6 := Lib.hid ((BA.out.below hw).alloc (.cells (setCs S) 35))
          have HO := Lib.hid (ho.alloc (.cells (setCs S) 35))
          have HB := Lib.hid (below_alloc hw (.cells (setCs S) 35))
          clear ho hw
          unfold setCs at H9 H6 HO HB
          go_wp2_with fail
          have hs9 := HB.out.size
          have l9 := H9.out.lt
          have l6 := H6.out.lt
          generalize hg9 : wr.heap.size = g9 at *
          generalize wr.alloc _ = wt at *
          obtain ⟨p0, p1, p2, p3⟩ := H9.out.four
          obtain ⟨q0, q1, q2, q3⟩ := H6.out.four
          go_region_held (fun w' => (w'.cell? ⟨g9, 0, none⟩ = some (.int .u64 (S 0)) ∧ w'.cell? ⟨g9, 1, none⟩ = some (.int .u64 (S 1)) ∧ w'.cell? ⟨g9, 2, none⟩ = some (.int .u64 (S 2)) ∧ w'.cell? ⟨g9, 3, none⟩ = some (.int .u64 (S 3))) ∧ (w'.cell? ⟨g6, 0, none⟩ = some (.int .u64 (a 0)) ∧ w'.cell? ⟨g6, 1, none⟩ = some (.int .u64 (a 1)) ∧ w'.cell? ⟨g6, 2, none⟩ = some (.int .u64 (a 2)) ∧ w'.cell? ⟨g6, 3, none⟩ = some (.int .u64 (a 3)))) (first | exact ⟨⟨p0, p1, p2, p3⟩, ⟨q0, q1, q2, q3⟩⟩ | exact ⟨E1.four, F1.four⟩ | exact ⟨E2.four, F2.four⟩ | exact ⟨E3.four, F3.four⟩ | exact ⟨(E3.alloc _).four, (F3.alloc _).four⟩ | go_keep) (first | (go_at_call 21; (with_reducible refine (ACX.out _).mono ?_); rintro e x1 ⟨rfl, k1⟩; have E1 := (Blk.drew H9.out).below k1; have F1 := (Blk.drew H6.out).below k1) | (go_at_call 22; (with_reducible refine (NC'.out _).mono ?_); rintro e x2 ⟨rfl, k2⟩; have E2 := E1.below k2; have F2 := F1.below k2) | (go_at_call 21; (with_reducible refine (ACY.out _).mono ?_); rintro e x3 ⟨rfl, k3⟩; have E3 := E2.below k3; have F3 := F2.below k3))
          have BX := below_step (below_step (below_undrew k1) k2) k3
          have HOz := Lib.hid (own_below HO.out (below_alloc BX (.cells (setCsL [X, Y]).toArray 35)))
          have HBz := Lib.hid (below_step HB.out (below_alloc BX (.cells (setCsL [X, Y]).toArray 35)))
          have EBz := Lib.hid (Blk.made x3 35 (setCsL [X, Y]).toArray)
          have hx3 := BX.size
          have OB := Lib.hid (fun g (h : (Value.slice ao7 (nx K a k).length cap7).ownBlock = some g) => (HO.out.lt g h).2)
          have hE : (setCsL [X, Y]).toArray = #[.int .u64 (X 0), .int .u64 (X 1), .int .u64 (X 2), .int .u64 (X 3), .int .u64 (Y 0), .int .u64 (Y 1), .int .u64 (Y 2), .int .u64 (Y 3)] := rfl
          have okE : ∀ U ∈ [X, Y], okS U := by
            intro U hU
            rcases List.mem_cons.1 hU with rfl | hU
            · exact okX
            · rw [List.mem_singleton.1 hU]; exact okY
          have hlE : [X, Y].length = 2 := rfl
          rw [hE] at HOz HBz
          clear E1 E2 E3 F1 F2 F3 k1 k2 k3 BX H9 H6 HO HB ACX ACY NC' p0 p1 p2 p3 q0 q1 q2 q3 d0 d1 d2 d3 okX okY hSl
          go_wp2_with fail
          rw [← hE] at HOz HBz ⊢
          generalize hg8 : x3.heap.size = g8 at *
          generalize x3.alloc _ = wz at *
          generalize [X, Y] = E at *
          clear hE
          go_loopw [7, 36] (fun v7 j wy => ∃ y : Nat, y ≤ 2 ∧ j = .int .i64 y ∧ wy.ownsRow ws.heap.size 35 4 v7 (nx K a k ++ (E.take y).filter fun T => decide (0 < cntS T)).length (setCsL (nx K a k ++ (E.take y).filter fun T => decide (0 < cntS T))) ∧ Blk wy g8 35 (setCsL E).toArray ∧ (∀ g, v7.ownBlock = some g → g ≠ g8) ∧ Below ws.heap.size ws wy) (fun _ j _ => 2 - (intOf j).toNat)
          case atStart => exact ⟨0, by omega, rfl, by rw [List.take_zero, List.filter_nil, List.append_nil]; exact HOz.out, EBz.out, fun g h => by have := OB.out g h; omega, HBz.out⟩
          case round =>
            clear HOz HBz EBz OB
            obtain ⟨y, hy, rfl, ho, he, hn, hw⟩ := hrel
            obtain ⟨ao8, cap8, rfl, _⟩ := own_form ho
            by_cases hly : y < 2
            · have t3 : decide (y < 2) = true := by simp; omega
              obtain ⟨c0, c1, c2, c3⟩ := two_at he (show y < E.length by omega)
              have TK := Lib.hid (List.take_succ_eq_append_getElem (show y < E.length by omega))
              have CC := Lib.hid (fun w1 => count_c E[y] (okE _ (List.getElem_mem (by omega))) w1)
              generalize E[y] = U at *
              have HO := Lib.hid (ho.alloc (.cells (setCs U) 35))
              have HE := Lib.hid (he.alloc (.cells (setCs U) 35))
              have HB := Lib.hid (below_alloc hw (.cells (setCs U) 35))
              have HU := Lib.hid (Blk.made wr 35 (setCs U))
              have HN := Lib.hid hn
              have h8 := he.lt
              clear ho he hn hw
              unfold setCs at HO HE HB HU
              unfold setV at CC
              go_wp2_with fail
              refine (CC.out _).mono ?_; rintro e w5 ⟨rfl, k5⟩
              have HO5 := own_below HO.out k5
              have HE5 := Lib.hid (HE.out.below k5)
              have HB5 := Lib.hid (below_step HB.out k5)
              have HU5 := HU.out.below k5
              have hs5 := k5.size
              rw [World.size_alloc] at hs5
              have OL := Lib.hid (fun g (h : (Value.slice ao8 (nx K a k ++ (E.take y).filter fun T => decide (0 < cntS T)).length cap8).ownBlock = some g) => (HO.out.lt g h).1)
              have hbs := HB.out.size
              rw [World.size_alloc] at hbs
              have hlen : (nx K a k ++ (E.take y).filter fun T => decide (0 < cntS T)).length ≤ 258 := by
                have h1 := List.length_filter_le (fun T => decide (0 < cntS T)) (E.take y)
                rw [List.length_take] at h1
                rw [List.length_append]; omega
              clear k5 HO HE HB HU CC c0 c1 c2 c3
              by_cases hp : 0 < cntS U
              · have t4 : decide ((0 : Int) < (cntS U : Nat)) = true := by simp; omega
                have FL := Lib.hid (show ((E.take (y + 1)).filter fun T => decide (0 < cntS T)) = ((E.take y).filter fun T => decide (0 < cntS T)) ++ [U] from by rw [TK.out, List.filter_append]; simp [hp])
                obtain ⟨u0, u1, u2, u3⟩ := HU5.four
                clear HU5
                generalize cntS U = cu at *
                generalize hxs : (nx K a k ++ (E.take y).filter fun T => decide (0 < cntS T)) = xs at *
                have HXS := Lib.hid hxs
                clear hxs
                go_wp2_with (at_builtin; refine wpList_append_lies _ rfl _ _ 22 rfl ws.heap.size 35 i0 _ 4 32 Tryd.underlying22 hti hz0 hz1 hz2 rfl (by omega) (.slice ao8 xs.length cap8) xs.length (setCsL xs) rfl (HO5.alloc _) ⟨w5.heap.size, 0, none⟩ 1 1 [.int .u64 (U 0), .int .u64 (U 1), .int .u64 (U 2), .int .u64 (U 3)] rfl rfl (World.news_of_block (cs := #[_, _, _, _]) (t := 35) (fr := (0, 0)) (heap_alloc_new w5 _)) (by simp [Value.oneCell']) (by omega) (by unfold maxLen; omega) (by omega) (by simp; omega) (w5.heap.size + 1) (by simp) ?_)
                intro gg cap5 w6 hown6 hgrow hat hlt6
                have HO6 := Lib.hid hown6
                have HE6 := Lib.hid (Blk.grown (HE5.out.alloc _) hgrow (fun e => HN.out _ e.symm rfl))
                have HB6 := Lib.hid (Below.grown (below_alloc HB5.out _) hgrow (by rw [World.size_alloc]; omega) (fun g h => OL.out g h))
                have HN6 := Lib.hid (show ∀ g, (Value.slice (some ⟨gg, 0, none⟩) (xs.length + 1) cap5).ownBlock = some g → g ≠ g8 from fun g h => by
                  cases h
                  rcases hat with h | h
                  · exact HN.out _ h
                  · have := h8; show gg ≠ g8; omega)
                clear hown6 hgrow hat HO5 HE5 HB5 HN OL
                go_wp2_with fail
                go_roundw
                case rel => exact ⟨y + 1, by omega, by go_num, by rw [FL.out, ← List.append_assoc, HXS.out, setCsL_snoc, List.length_append, hsz]; exact HO6.out, HE6.out, HN6.out, HB6.out⟩
                case measure => go_light; simp [intOf]; omega
              · have t4 : decide ((0 : Int) < (cntS U : Nat)) = false := by simp; omega
                have FL := Lib.hid (show ((E.take (y + 1)).filter fun T => decide (0 < cntS T)) = ((E.take y).filter fun T => decide (0 < cntS T)) from by rw [TK.out, List.filter_append]; simp [hp])
                have HO6 := Lib.hid HO5
                clear HU5 HO5
                generalize cntS U = cu at *
                generalize hxs : (nx K a k ++ (E.take y).filter fun T => decide (0 < cntS T)) = xs at *
                have HXS := Lib.hid hxs
                clear hxs
                go_wp2_with fail
                go_roundw
                case rel => exact ⟨y + 1, by omega, by go_num, by rw [FL.out, HXS.out]; exact HO6.out, HE5.out, HN.out, HB5.out⟩
                case measure => go_light; simp [intOf]; omega
            · obtain rfl : y = 2 := by omega
              have HO := Lib.hid (own_eq ho (show _ = nx K a (k + 1) from by rw [List.take_of_length_le (by omega), ← CO.out, ← NX.out]))
              have HB := Lib.hid hw
              clear ho he hn hw
              go_wp2_with fail
              go_roundw
              case rel => exact ⟨k + 1, by omega, by go_num, HO.out, HB.out⟩
              case measure => go_light; simp [intOf]; omega
        · obtain rfl : k = K.length := by omega
          have HO := Lib.hid (own_mono (own_eq ho (nx_all K a)) (show w.heap.size + 1 ≤ ws.heap.size by omega))
          have HBW := Lib.hid (HW.out.trans (hw.mono HW.out.size))
          have hws2 := hw.size
          clear ho hw
          go_wp2_with fail
          go_roundw
          case rel => exact ⟨i + 1, by omega, by go_num, by rw [CT.out]; exact HO.out, HBW.out, by omega⟩
          case measure => go_light; simp [intOf]; omega
    · obtain rfl : i = l.length := by omega
      rw [List.take_length] at *
      have PA := part_all l HOK.out
      have NM := Lib.hid (fun w1 (h1 : SetsR w1 (.slice ao4 (cutAll l).length cap4) (cutAll l)) => number_c l (cutAll l) PA hkl (.slice ao4 (cutAll l).length cap4) w1 h1)
      have CE := Lib.hid (clsSets.eq_1 l)
      have HW := Lib.hid hw
      have hws := hw.size
      clear ho hw hok PA
      generalize cutAll l = K at *
      go_wp2_with fail
      refine (NM.out _ SK.out).mono ?_; rintro e w2 ⟨p, rfl, hp1, hp2, k2⟩
      have PP := Lib.hid (show PtOf w2 p l from by unfold PtOf; rw [CE.out]; exact hp2)
      have HW2 := Lib.hid (below_step HW.out k2)
      clear hp2 k2 NM
      go_wp2_with fail
      go_returns
      exact ⟨p, rfl, by omega, PP.out, HW2.out⟩
end Go.Proofs.YtonicgbejmghkaaDoor
