/- The walk of RulesJoin. -/
import Derived.Test.YtokfcndhmbkelaaRuPure2
namespace Go.Proofs.Ytokfcndhmbkelaa
open Go.RowKit
def JnInv (L : List Ln) (w wr : World) (v3 v16 : Value) : Prop :=
  ∃ k : Nat, k ≤ L.length ∧ v16 = .int .i64 k ∧ wr.ownsRow w.heap.size 32 3 v3 k (lnCells (L.take k)) ∧ Below w.heap.size w wr
theorem LinesAt.news {w : World} {base n cap : Nat} {a : Addr} {L : List Ln} (h : LinesAt w base (.slice (some a) n cap) L) : ∀ j u, (lnCells L)[j]? = some u → w.cell? (a.add j) = some u := by
  intro j u hu
  have hj : j < L.length * 3 := by
    rw [← lnCells_len]
    exact (List.getElem?_eq_some_iff.1 hu).1
  obtain ⟨A', cap', e, _, hc⟩ := h
  injection e with e1 _ _
  subst e1
  obtain ⟨b, o, e, _, _, hcell⟩ := hc (by omega)
  injection e with e
  subst e
  have hi : j / 3 < L.length := by omega
  obtain ⟨c0, c1, c2⟩ := hcell _ hi
  obtain ⟨d0, d1, d2⟩ := lnCells_at L _ hi
  have hadd : (⟨b, o, none⟩ : Addr).add j = ⟨b, o + j, none⟩ := by
    unfold Addr.add; split
    · rename_i h; rw [h]; rfl
    · rfl
  rw [hadd]
  rcases (by omega : j = j / 3 * 3 ∨ j = j / 3 * 3 + 1 ∨ j = j / 3 * 3 + 2) with e | e | e
  · have e' : o + j = o + j / 3 * 3 := by omega
    rw [e']; rw [show (lnCells L)[j]? = (lnCells L)[j / 3 * 3]? from congrArg (fun k => (lnCells L)[k]?) e, d0] at hu; rw [c0, ← hu]
  · have e' : o + j = o + j / 3 * 3 + 1 := by omega
    rw [e'] ; rw [show (lnCells L)[j]? = (lnCells L)[j / 3 * 3 + 1]? from congrArg (fun k => (lnCells L)[k]?) e, d1] at hu; rw [c1, ← hu]
  · have e' : o + j = o + j / 3 * 3 + 2 := by omega
    rw [e'] ; rw [show (lnCells L)[j]? = (lnCells L)[j / 3 * 3 + 2]? from congrArg (fun k => (lnCells L)[k]?) e, d2] at hu; rw [c2, ← hu]
theorem lnCells_one : ∀ {L : List Ln}, ∀ u ∈ lnCells L, u.oneCell' = true
  | [], u, h => by cases h
  | x :: L, u, h => by
    unfold lnCells at h
    rw [List.flatMap_cons, List.mem_append] at h
    rcases h with h | h
    · simp [Ln.cs] at h; rcases h with rfl | rfl | rfl <;> rfl
    · exact lnCells_one u h
theorem own_empty (w : World) (t : TypeId) : (w.alloc (.cells #[] t)).ownsRow w.heap.size t 3 (.slice (some ⟨w.heap.size, 0, none⟩) 0 0) 0 [] :=
  ⟨rfl, .inr ⟨w.heap.size, 0, #[], rfl, Nat.le_refl _, heap_alloc_new _ _, Nat.le_refl _, by unfold maxLen; omega, rfl, rfl⟩⟩
theorem key_at {a b : List Ln} (h : keyL a = keyL b) {k : Nat} (hk : k < a.length) (hk2 : k < b.length) : a[k].name = b[k].name ∧ a[k].text = b[k].text := by
  have := congrArg (fun l => l[k]?) h
  unfold keyL at this
  simp only [List.getElem?_map, List.getElem?_eq_getElem hk, List.getElem?_eq_getElem hk2, Option.map_some] at this
  injection this with this
  injection this with h1 h2
  exact ⟨h1, h2⟩
theorem key_len {a b : List Ln} (h : keyL a = keyL b) : a.length = b.length := by
  have := congrArg List.length h
  unfold keyL at this
  rwa [List.length_map, List.length_map] at this
set_option maxHeartbeats 8000000 in
set_option maxRecDepth 100000 in
theorem rulesJoin_c (L : List Ln) (v : Value) (w : World) (hv : LinesAt w 0 v L) (hl : L.length * 40 ≤ 140737488351232) (hm : ∀ x ∈ L, x.name.length ≤ 140737488351232 ∧ x.text.length ≤ 140737488351232) : Calls Try.prog 4 #[v] w fun e w' => e = .returned (.bool true) ∧ Below w.heap.size w w' := by
  have HV := Lib.hid hv
  have HM := Lib.hid hm
  have AW := Lib.hid awake_c
  have FC := Lib.hid (fun v w1 h => few_c L (by omega) (fun x hx => by have := hm x hx; omega) v w1 h)
  have JC := Lib.hid (fun h1 h2 v w1 h => join_c L h1 h2 v w1 h)
  have RC := Lib.hid (fun h1 h2 v w1 h => rjoin_c L h1 h2 v w1 h)
  have SC := Lib.hid (fun t h w1 => split_c t h w1)
  obtain ⟨A, cap, rfl, hcap, hvc⟩ := hv
  have I0 := Lib.hid (show JnInv L w w (.slice none 0 0) (.int .i64 0) from ⟨0, Nat.zero_le _, rfl, World.ownsRow_nil _ _ _ _, Below.refl _ _⟩)
  obtain ⟨i0, hi, hz0, hz1, hz2⟩ := info_parts info_rline
  obtain ⟨j0, gi, gz0, gz1, gz2⟩ := info_parts info_line
  clear hvc hm
  go_enter Try.func4, Try.ntmps4
  go_upto_block 0 with fail
  go_cut [3] from 16 to 30 (fun v3 wx => wx.ownsRow w.heap.size 32 3 v3 L.length (lnCells L) ∧ Below w.heap.size w wx)
  case first =>
    go_wp2_with fail
    go_loopw [3, 16] (fun v3 v16 wr => JnInv L w wr v3 v16) (fun _ v16 _ => L.length - (intOf v16).toNat)
    case atStart => exact I0.out
    case round =>
      obtain ⟨k, hk, rfl, hown, hw⟩ := hrel
      have HO := Lib.hid hown
      have HW := Lib.hid hw
      obtain ⟨ao, cp, rfl, -⟩ := own_form hown
      clear hown hw I0
      by_cases hlt : k < L.length
      · have l1 := HV.out.below HW.out
        obtain ⟨B1, q1, e', _, hc1⟩ := l1
        injection e' with e1 e0 e2
        clear e0
        subst e1
        subst e2
        obtain ⟨g, o, rfl, _, hg, hcell⟩ := hc1 (by omega)
        obtain ⟨c0, c1, c2⟩ := hcell k hlt
        have t2 : decide (k < L.length) = true := by simp; omega
        have t3 : (k : Int) < (L.length : Nat) := by omega
        have t4 : (0 : Int) ≤ (k : Int) := by omega
        have CE := Lib.hid (show lnCells (L.take k) ++ [str L[k].name, str L[k].text, .int .i64 L[k].at_] = lnCells (L.take (k + 1)) by rw [List.take_succ_eq_append_getElem hlt, lnCells_snoc]; rfl)
        clear hc1 hcell
        unfold str at *
        generalize (⟨L[k].name.toArray⟩ : ByteArray) = s3 at *
        generalize (⟨L[k].text.toArray⟩ : ByteArray) = s4 at *
        generalize L[k].at_ = z at *
        have hbs := HW.out.size
        go_wp2_with (at_builtin; refine wpList_append_own _ rfl _ _ 27 rfl w.heap.size 32 i0 (.agg #[.string ⟨#[]⟩, .string ⟨#[]⟩, .int .i64 0]) 3 40 Try.underlying27 hi hz0 hz1 hz2 rfl (by decide) _ _ _ rfl ((HO.out.alloc _).alloc _) ⟨_, 0, none⟩ 1 1 [.string s3, .string s4, .int .i64 z] rfl rfl ?c1 ?c2 ?c3 ?c4 ?c5 ?_)
        case c1 => exact World.news_of_block (cs := #[.string s3, .string s4, .int .i64 z]) (t := 32) (fr := (0, 0)) (by have h := heap_alloc_new (wr.alloc (.cells #[.string s3, .string s4, .int .i64 z] 31)) (.cells #[.string s3, .string s4, .int .i64 z] 32); rw [World.size_alloc] at h; exact h)
        case c2 => intro u hu; simp at hu; rcases hu with rfl | rfl | rfl <;> rfl
        case c3 => unfold maxLen; omega
        case c4 => omega
        case c5 => first | omega | (simp; omega) | simp
        intro v' w3 hown3 hgrow _
        have HW3 := Lib.hid (Below.ofGrown (below_alloc (below_alloc HW.out _) _) ((HO.out.alloc _).alloc _) hgrow (Nat.le_refl _) (by first | omega | (simp; omega)))
        rw [CE.out] at hown3
        have HO3 := Lib.hid hown3
        clear hown3 hgrow CE c0 c1 c2
        go_wp2_with fail
        go_roundw
        case rel => exact ⟨k + 1, by omega, by go_num, HO3.out, HW3.out⟩
        case measure => simp [intOf]; omega
      · have e : k = L.length := by omega
        subst e
        have t0 : ¬ L.length < L.length := by omega
        rw [List.take_length] at HO
        go_wp2_with fail
        go_meet
        case rel => exact ⟨HO.out, HW.out⟩
  case rest =>
    obtain ⟨ho, hw⟩ := hcut
    have HW := Lib.hid hw
    have HO := Lib.hid ho
    obtain ⟨ao, cp, rfl, -⟩ := own_form ho
    clear ho hw I0
    go_wp2_with fail
    refine (AW.out _).mono ?_; rintro e w1 ⟨rfl, b1⟩
    have B1 := Lib.hid (below_step HW.out b1)
    have LW1 := Lib.hid (((LinesAt.own HO.out).below b1).mono (Nat.zero_le _))
    clear b1
    go_wp2_with fail
    refine (FC.out _ _ LW1.out).mono ?_; rintro e w2 ⟨rfl, b2⟩
    have B2 := Lib.hid (below_step B1.out b2)
    have LW2 := Lib.hid (LW1.out.below b2)
    clear b2
    cases hfw : fewB L with
    | false =>
      go_wp2_with fail
      refine (AW.out _).mono ?_; rintro e w3 ⟨rfl, b3⟩
      have B3 := Lib.hid (below_step B2.out b3)
      clear b3
      go_wp2_with fail
      go_returns
      exact ⟨rfl, B3.out⟩
    | true =>
      obtain ⟨hl30, hm2⟩ := few_true hfw
      have HM2 := Lib.hid hm2
      have LV2 := Lib.hid (HV.out.below B2.out)
      clear hfw hm2
      go_upto_region 9 with fail
      go_cut [6, 7] from 38 to 45 (fun v6 v7 wx => v6 = str ((joinB L).getD []) ∧ v7 = .int .i64 (joinE (joinB L)) ∧ Below w2.heap.size w2 wx)
      case first =>
        cases A with
        | none =>
          have hc0 : cap = 0 := hcap.1 rfl
          have e0 : L = [] := List.eq_nil_of_length_eq_zero (by have := hcap.2; omega)
          subst e0
          subst hc0
          have JX := Lib.hid (JC.out (by simp) (fun x hx => by cases hx) (.slice (some ⟨w2.heap.size, 0, none⟩) 0 0) (w2.alloc (.cells #[] 31)) ((LinesAt.own (l := []) (own_empty w2 31)).mono (Nat.zero_le _)))
          clear HV HM FC JC RC LW1 LW2 LV2 HO HM2
          unfold str at *
          simp only [List.length_nil]
          go_wp2_with fail
          refine JX.out.mono ?_; rintro e w3 ⟨rfl, b3⟩
          have B3 := Lib.hid (below_step (below_alloc (Below.refl _ _) _) b3)
          clear b3
          go_wp2_with fail
          go_meet
          exact ⟨rfl, rfl, B3.out⟩
        | some ad =>
          have NW := Lib.hid (fun (o : Obj) => (LV2.out.below (below_alloc (Below.refl _ _) o)).news)
          have JX := Lib.hid (fun v w1 h => JC.out (by omega) (fun x hx => by have := HM2.out x hx; omega) v w1 h)
          go_wp2_with (at_builtin; refine wpList_append_own _ rfl _ _ 23 rfl w2.heap.size 31 j0 (.agg #[.string ⟨#[]⟩, .string ⟨#[]⟩, .int .i64 0]) 3 40 Try.underlying23 gi gz0 gz1 gz2 rfl (by decide) _ _ _ rfl (own_empty w2 31) ad L.length cap (lnCells L) rfl (lnCells_len L) ?c1 ?c2 ?c3 ?c4 ?c5 ?_)
          case c1 => exact NW.out _
          case c2 => exact lnCells_one
          case c3 => unfold maxLen; omega
          case c4 => omega
          case c5 => first | omega | (simp; omega) | simp
          intro v' w3 hown3 hgrow _
          have B3 := Lib.hid (Below.ofGrown (below_alloc (Below.refl _ _) _) (own_empty w2 31) hgrow (Nat.le_refl _) (by first | omega | (simp; omega) | simp))
          have JY := Lib.hid (JX.out v' w3 ((LinesAt.own hown3).mono (Nat.zero_le _)))
          clear hown3 hgrow
          unfold str at *
          go_wp2_with fail
          refine JY.out.mono ?_; rintro e w4 ⟨rfl, b4⟩
          have B4 := Lib.hid (below_step B3.out b4)
          clear b4
          go_wp2_with fail
          go_meet
          exact ⟨rfl, rfl, B4.out⟩
      case rest =>
        obtain ⟨rfl, rfl, b3⟩ := hcut
        have B3 := Lib.hid (below_step B2.out b3)
        have RX := Lib.hid (RC.out (by omega) (fun x hx => by have := HM2.out x hx; omega) _ _ (LW2.out.below b3))
        have LV3 := Lib.hid (LV2.out.below b3)
        clear b3
        unfold str at *
        cases hj : joinB L with
        | none =>
          rw [hj] at RX
          have e1 : joinE none = 1 := rfl
          rw [e1]
          simp only [Option.getD_none, Option.isSome_none] at RX ⊢
          go_wp2_with fail
          refine RX.out.mono ?_; rintro e w4 ⟨rfl, b4⟩
          have B4 := Lib.hid (below_step B3.out b4)
          clear b4
          go_wp2_with fail
          go_returns
          exact ⟨rfl, B4.out⟩
        | some t =>
          rw [hj] at RX
          have e1 : joinE (some t) = 0 := rfl
          rw [e1]
          simp only [Option.getD_some, Option.isSome_some] at RX ⊢
          obtain ⟨ls, hsp, hkey⟩ := split_join hj
          have htl := joinB_len hj
          have SX := Lib.hid (fun w1 => SC.out t (by omega) w1)
          rw [hsp] at SX
          have hkl := key_len hkey
          have HK := Lib.hid hkey
          generalize (⟨t.toArray⟩ : ByteArray) = s0 at *
          clear hj hsp hkey RC SC JC FC
          go_wp2_with fail
          refine RX.out.mono ?_; rintro e w4 ⟨rfl, b4⟩
          have B4 := Lib.hid (below_step B3.out b4)
          have LV4 := Lib.hid (LV3.out.below b4)
          clear b4
          go_wp2_with fail
          refine (SX.out _).mono ?_; rintro e w5 ⟨v5, n5, k5, rfl, ⟨h5, rfl, rfl⟩, b5⟩
          have B5 := Lib.hid (below_step B4.out b5)
          have LV5 := Lib.hid (LV4.out.below b5)
          have HL5 := Lib.hid (LinesAt.mono h5 (Nat.zero_le _))
          obtain ⟨A5, cap5, rfl, _, _⟩ := h5
          clear b5
          go_wp2_with fail
          go_loopw [91] (fun v wr => ∃ k : Nat, k ≤ L.length ∧ v = .int .i64 k ∧ Below w5.heap.size w5 wr) (fun v _ => L.length - (intOf v).toNat)
          case atStart => exact ⟨0, by omega, rfl, Below.refl _ _⟩
          case round =>
            obtain ⟨k, hk, rfl, hkp⟩ := hrel
            have HKP := Lib.hid hkp
            clear hkp
            by_cases hlt : k < L.length
            · have hlt2 : k < ls.length := by omega
              have l1 := HL5.out.below HKP.out
              have l2 := LV5.out.below HKP.out
              obtain ⟨B1', q1, e', _, hc1⟩ := l1
              injection e' with e1 e0 e2
              clear e0
              subst e1
              subst e2
              obtain ⟨g, o, rfl, _, hg, hcell1⟩ := hc1 (by omega)
              obtain ⟨c0, c1, -⟩ := hcell1 k hlt2
              obtain ⟨B2', q2, e', _, hc2⟩ := l2
              injection e' with e1 e0 e2
              clear e0
              subst e1
              subst e2
              obtain ⟨g2, o2, rfl, _, hg2, hcell2⟩ := hc2 (by omega)
              obtain ⟨c3, c4, -⟩ := hcell2 k hlt
              obtain ⟨k1, k2⟩ := key_at HK.out hlt2 hlt
              rw [k1] at c0
              rw [k2] at c1
              have t2 : decide (k < L.length) = true := by simp; omega
              have t3 : (k : Int) < (L.length : Nat) := by omega
              have t4 : (0 : Int) ≤ (k : Int) := by omega
              clear hc1 hc2 hcell1 hcell2 k1 k2 hlt2
              unfold str at *
              generalize (⟨L[k].name.toArray⟩ : ByteArray) = s3 at *
              generalize (⟨L[k].text.toArray⟩ : ByteArray) = s4 at *
              have d0 : ∀ y : Ext wr, y.v.cell? ⟨g, o + k * 3, none⟩ = some (.string s3) := fun y => y.cell c0
              have d1 : ∀ y : Ext wr, y.v.cell? ⟨g, o + k * 3 + 1, none⟩ = some (.string s4) := fun y => y.cell c1
              have d3 : ∀ y : Ext wr, y.v.cell? ⟨g2, o2 + k * 3, none⟩ = some (.string s3) := fun y => y.cell c3
              have d4 : ∀ y : Ext wr, y.v.cell? ⟨g2, o2 + k * 3 + 1, none⟩ = some (.string s4) := fun y => y.cell c4
              clear c0 c1 c3 c4
              go_upto_region 21 with fail
              refine wp_region_ext (by kernel_rfl) (by kernel_rfl) ?_
              repeat (go_big_quiet_step (fail))
              refine wpQuiet_nil ?_
              intro _ hw'
              obtain ⟨xq, hw''⟩ := hw'
              subst hw''
              have HW2 := Lib.hid (below_step HKP.out xq.h)
              clear d0 d1 d3 d4
              go_wp2_with fail
              go_roundw
              case rel => exact ⟨k + 1, by omega, by go_num, HW2.out⟩
              case measure => simp [intOf]; omega
            · have e : k = L.length := by omega
              subst e
              have t0 : ¬ L.length < L.length := by omega
              go_wp2_with fail
              go_returns
              exact ⟨rfl, below_step B5.out HKP.out⟩
end Go.Proofs.Ytokfcndhmbkelaa
