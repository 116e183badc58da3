/- The walk of PartsCut. -/
import Derived.Test.YtonicgbejmghkaaDoorPtPure3
import Derived.Test.YtonicgbejmghkaaDoorPtTell
namespace Go.Proofs.YtonicgbejmghkaaDoor
open Go.RowKit
/-- Some classes' bytes together. -/
def orCl (l : List (Nat → Nat)) (L : List Nat) : Nat → Nat := L.foldl (fun S c => orS S (clSet l (c : Nat))) zeroS
theorem orCl_snoc (l : List (Nat → Nat)) (L : List Nat) (c : Nat) : orCl l (L ++ [c]) = orS (orCl l L) (clSet l (c : Nat)) := by unfold orCl; rw [List.foldl_append]; rfl
theorem orCl_from {l : List (Nat → Nat)} (ho : ∀ S ∈ l, okS S) (b : Nat) : ∀ (L : List Nat) (T : Nat → Nat), okS T → okS (L.foldl (fun S c => orS S (clSet l (c : Nat))) T) ∧ has (L.foldl (fun S c => orS S (clSet l (c : Nat))) T) b = (has T b || L.any fun c => has (clSet l (c : Nat)) b)
  | [], T, hT => ⟨hT, by simp⟩
  | c :: L, T, hT => by
    have := orCl_from ho b L (orS T (clSet l (c : Nat))) (orS_ok hT (clSet_ok ho _))
    refine ⟨this.1, ?_⟩
    rw [List.foldl_cons, this.2, has_or, List.any_cons, Bool.or_assoc]
theorem orCl_ok {l : List (Nat → Nat)} (ho : ∀ S ∈ l, okS S) (L : List Nat) : okS (orCl l L) := (orCl_from ho 0 L zeroS zero_ok).1
theorem has_orCl {l : List (Nat → Nat)} (ho : ∀ S ∈ l, okS S) (L : List Nat) (b : Nat) : has (orCl l L) b = L.any fun c => has (clSet l (c : Nat)) b := by
  have := (orCl_from ho b L zeroS zero_ok).2
  rw [has_zero, Bool.false_or] at this
  exact this
theorem subS_iff {S a : Nat → Nat} (hS : okS S) (ha : okS a) : subS S a = true ↔ ∀ b, b < 256 → has S b = true → has a b = true := by
  have h := set_ext_iff (S := andS S (notS a)) (T := zeroS) (and_ok hS) zero_ok
  have e : subS S a = true ↔ (andS S (notS a) 0 = zeroS 0 ∧ andS S (notS a) 1 = zeroS 1 ∧ andS S (notS a) 2 = zeroS 2 ∧ andS S (notS a) 3 = zeroS 3) := by
    unfold subS zeroS
    simp
  rw [e, h]
  constructor
  · intro k b hb hSb
    have := k b hb
    rw [has_and, has_not ha, has_zero, hSb] at this
    simpa using this
  · intro k b hb
    rw [has_and, has_not ha, has_zero]
    cases hSb : has S b with
    | false => rfl
    | true => rw [k b hb hSb]; rfl
theorem mem_upto (p : Nat → Bool) (c : Nat) : ∀ n, c ∈ upto p n ↔ c < n ∧ p c = true
  | 0 => by simp [upto]
  | n + 1 => by
    have ih := mem_upto p c n
    show c ∈ (if p n = true then _ else _) ↔ _
    by_cases h : p n = true
    · rw [if_pos h, List.mem_append, ih, List.mem_singleton]
      constructor
      · rintro (⟨h1, h2⟩ | rfl)
        · exact ⟨by omega, h2⟩
        · exact ⟨by omega, h⟩
      · rintro ⟨h1, h2⟩
        by_cases e : c = n
        · exact .inr e
        · exact .inl ⟨by omega, h2⟩
    · rw [if_neg h, ih]
      constructor
      · rintro ⟨h1, h2⟩; exact ⟨by omega, h2⟩
      · rintro ⟨h1, h2⟩
        refine ⟨?_, h2⟩
        by_cases e : c = n
        · subst e; exact absurd h2 h
        · omega
theorem clsSets_get {l : List (Nat → Nat)} {c : Nat} (hc : c < nc l) : (clsSets l).getD c zeroS = clSet l (c : Nat) := by
  rw [clSet_nat hc, List.getD_eq_getElem?_getD, List.getElem?_eq_getElem (by rw [clsSets_len]; exact hc)]; rfl
theorem mem_clIn {l : List (Nat → Nat)} (ho : ∀ S ∈ l, okS S) {a : Nat → Nat} (ha : okS a) (c : Nat) : c ∈ clIn l a ↔ c < nc l ∧ ∀ b, b < 256 → cl l b = c → has a b = true := by
  unfold clIn clsIn
  rw [mem_upto]
  constructor
  · rintro ⟨h1, h2⟩
    refine ⟨h1, fun b hb e => ?_⟩
    simp only [clsSets_get h1] at h2
    exact (subS_iff (clSet_ok ho _) ha).1 h2 b hb (by rw [clSet_at ho h1 hb]; simpa using e)
  · rintro ⟨h1, h2⟩
    refine ⟨h1, ?_⟩
    simp only [clsSets_get h1]
    exact (subS_iff (clSet_ok ho _) ha).2 fun b hb hSb => h2 b hb (by rw [clSet_at ho h1 hb] at hSb; simpa using hSb)
theorem or_all {l : List (Nat → Nat)} (ho : ∀ S ∈ l, okS S) {a : Nat → Nat} (hm : a ∈ l) : setCs (orCl l (clIn l a)) = setCs a := by
  have ha := ho a hm
  have key : ∀ i, i < 4 → orCl l (clIn l a) i = a i := fun i hi => by
    refine set_ext (orCl_ok ho _) ha (fun b hb => ?_) i hi
    rw [has_orCl ho, Bool.eq_iff_iff, List.any_eq_true]
    constructor
    · rintro ⟨c, hc, hcb⟩
      obtain ⟨h1, h2⟩ := (mem_clIn ho ha c).1 hc
      rw [clSet_at ho h1 hb] at hcb
      exact h2 b hb (by simpa using hcb)
    · intro hab
      refine ⟨cl l b, (mem_clIn ho ha _).2 ⟨cl_lt l hb, fun x hx e => ?_⟩, by rw [clSet_at ho (cl_lt l hb) hb]; simp⟩
      rw [same_iff.1 ((cl_iff l hx hb).1 e) a hm]; exact hab
  unfold setCs
  rw [key 0 (by omega), key 1 (by omega), key 2 (by omega), key 3 (by omega)]
theorem clIn_lt (l : List (Nat → Nat)) (a : Nat → Nat) {j : Nat} (hj : j < (clIn l a).length) : (clIn l a)[j] < nc l := ((mem_upto _ _ _).1 (List.getElem_mem hj)).1
theorem clIn_len (l : List (Nat → Nat)) (a : Nat → Nat) : (clIn l a).length ≤ 256 := Nat.le_trans (upto_len _ _) (nc_le l)
theorem told_apart {l : List (Nat → Nat)} {i j : Nat} (hi : i < nc l) (hj : j < i) : same l (lb l i) (lb l j) = false := by
  obtain ⟨h1, h2, _⟩ := lb_fact l hi
  obtain ⟨h3, h4, _⟩ := lb_fact l (show j < nc l by omega)
  cases hs : same l (lb l i) (lb l j) with
  | false => rfl
  | true => have := (cl_iff l h1 h3).2 hs; omega
theorem same_nil (x y : Nat) : same [] x y = true := rfl
theorem same_take' {l : List (Nat → Nat)} {i : Nat} (hi : i < l.length) (a b : Nat) : same (l.take (i + 1)) a b = (same (l.take i) a b && (has l[i] a == has l[i] b)) := same_take hi a b
theorem info_set4 : (Tryd.prog.info? 35).map (·.size) = some 4 := by kernel_rfl
theorem setCs_ok (S : Nat → Nat) : (setCs S).all (·.oneCell') = true := by simp [setCs, Value.oneCell']
theorem PtOf.ext {w : World} {p : Nat} {l : List (Nat → Nat)} (h : PtOf w p l) (x : Ext w) : PtOf x.v p l := h.below x.h
attribute [local irreducible] Calls nc cl lb cntS clSet fnV rmV same clIn orCl
set_option maxHeartbeats 4000000 in
set_option maxRecDepth 100000 in
theorem cutl_big (l : List (Nat → Nat)) (hl : 30 < l.length) (v : Value) (w : World) (hv : SetsR w v l) (hT : TabAt 0 Lib.deBruijn64tab w) : Calls Tryd.prog 4 #[v] w fun e w' => e = .returned (.bool true) ∧ Below w.heap.size w w' := by
  have AW := Lib.hid (fun w1 ht => awake_c w1 ht)
  have HT := Lib.hid hT
  obtain ⟨ao, cap, rfl, _⟩ := hv
  have t1 : decide ((30 : Int) < (l.length : Nat)) = true := by simp; omega
  clear hT
  go_enter Tryd.func4, Tryd.ntmps4
  go_wp2_with fail
  refine (AW.out _ HT.out).mono ?_; rintro e w1 ⟨rfl, k1⟩
  go_wp2_with fail
  refine (AW.out _ (TabAt.below HT.out k1)).mono ?_; rintro e w2 ⟨rfl, k2⟩
  go_wp2_with fail
  go_returns
  exact ⟨rfl, below_step k1 k2⟩
set_option maxHeartbeats 4000000 in
set_option maxRecDepth 100000 in
theorem cutl_few (l : List (Nat → Nat)) (ho : ∀ S ∈ l, okS S) (hl : l.length ≤ 30) (v : Value) (w : World) (hv : SetsR w v l) (hN : Nil0 v) (hT : TabAt 0 Lib.deBruijn64tab w) : Calls Tryd.prog 4 #[v] w fun e w' => e = .returned (.bool true) ∧ Below w.heap.size w w' := by
  have AW := Lib.hid (fun w1 ht => awake_c w1 ht)
  have HT := Lib.hid hT
  have HN := Lib.hid hN
  have HV := Lib.hid hv
  have HOK := Lib.hid ho
  have t1 : decide ((30 : Int) < (l.length : Nat)) = false := by simp; omega
  have hnc := nc_le l
  have CC := Lib.hid (fun v1 w1 h => cut_c l ho (by omega) v1 w1 h)
  have LC := Lib.hid (fun p w1 h => len_of (p := p) (l := l) w1 h)
  have OC := Lib.hid (fun p (c : Nat) w1 h => of_of (p := p) (l := l) (c : Nat) w1 h)
  have SC := Lib.hid (fun p (c : Nat) w1 ht h => smp_of (p := p) ho (c : Nat) w1 ht h)
  have KC := Lib.hid (fun p a ha w1 h => classes_of (p := p) ho (a := a) ha w1 h)
  have ES := fun (a0 a1 a2 a3 : Int) (w1 : World) => set_same a0 a1 a2 a3 w1
  obtain ⟨ao, cap, rfl, _⟩ := hv
  clear hT hN ho
  go_enter Tryd.func4, Tryd.ntmps4
  go_wp2_with fail
  refine (AW.out _ HT.out).mono ?_; rintro e w1 ⟨rfl, k1⟩
  have W1 := Lib.hid k1
  have hs1 := k1.size
  have V1 := Lib.hid (HV.out.below (below_alloc W1.out (.cells #[] 35)))
  have W1' := Lib.hid (below_alloc W1.out (.cells #[] 35))
  have ON1 := Lib.hid (own_none w1 w.heap.size k1.size)
  clear k1
  go_wp2_with (at_builtin; refine wpList_copy rfl _ _ rfl w.heap.size [] l _ _ rfl ON1.out rfl V1.out HN.out (by simp; omega) (by rw [World.size_alloc]; omega) ?_)
  intro v2 w2 ho2 hg2
  have S2 := Lib.hid (own_sets ho2)
  have W2 := Lib.hid (Below.grown W1'.out hg2 (by rw [World.size_alloc]; omega) (fun g h => (ON1.out.lt g h).1))
  clear ho2 hg2 ON1 W1' V1 W1
  go_wp2_with fail
  refine (CC.out _ _ S2.out).mono ?_; rintro e w3 ⟨p, rfl, _, hp3, k3⟩
  have W3 := Lib.hid (below_step W2.out k3)
  have P3 := Lib.hid hp3
  have V3 := Lib.hid (HV.out.below W3.out)
  clear k3 hp3 S2 W2
  go_wp2_with fail
  go_loopw [32] (fun j wx => ∃ i : Nat, i ≤ l.length ∧ j = .int .i64 i ∧ Below w3.heap.size w3 wx) (fun j _ => l.length - (intOf j).toNat)
  case atStart => exact ⟨0, by omega, rfl, Below.refl _ _⟩
  case round =>
    obtain ⟨i, hi, rfl, hw⟩ := hrel
    by_cases hlt : i < l.length
    · have t2 : decide (i < l.length) = true := by simp; omega
      obtain ⟨b, off, rfl, hb, c0, c1, c2, c3⟩ := (V3.out.below hw).at_ hlt
      have hal : okS l[i] := HOK.out _ (List.getElem_mem hlt)
      have OA := Lib.hid (or_all HOK.out (List.getElem_mem hlt))
      have hsw := hw.size
      generalize l[i] = a at *
      have KA := Lib.hid (fun w1 h => KC.out p a hal w1 h)
      have B5 := Lib.hid ((Blk.made wr 35 (setCs a)).alloc (.cells (setCs zeroS) 35))
      have B6 := Lib.hid (show Blk ((wr.alloc (.cells (setCs a) 35)).alloc (.cells (setCs zeroS) 35)) (wr.heap.size + 1) 35 (setCs zeroS) from by
        have := Blk.made (wr.alloc (.cells (setCs a) 35)) 35 (setCs zeroS)
        rw [World.size_alloc] at this
        exact this)
      have HW := Lib.hid (below_alloc (below_alloc hw (.cells (setCs a) 35)) (.cells (setCs zeroS) 35))
      have hZ : setCs zeroS = #[.int .u64 0, .int .u64 0, .int .u64 0, .int .u64 0] := rfl
      rw [hZ] at B5 B6 HW
      have EA : setCs a = #[.int .u64 (a 0), .int .u64 (a 1), .int .u64 (a 2), .int .u64 (a 3)] := rfl
      rw [EA] at B5 B6 HW
      have hl5 := B5.out.lt
      have hl6 := B6.out.lt
      clear hw
      unfold setV at KA
      go_wp2_with fail
      generalize hg5 : wr.heap.size = g5 at *
      generalize (wr.alloc _).alloc _ = ws at *
      clear c0 c1 c2 c3
      refine (KA.out _ (P3.out.below HW.out)).mono ?_; rintro e w6 ⟨v6, rfl, ho6, k6⟩
      have B5' := Lib.hid (B5.out.below k6)
      have B6' := Lib.hid ((B6.out.below k6).cast (cs' := setCs (orCl l ((clIn l a).take 0))) (by rw [List.take_zero]; unfold orCl; rfl))
      have HW6 := Lib.hid (below_step HW.out k6)
      obtain ⟨ao6, cap6, rfl, hv6⟩ := own_form ho6
      have HO6 := Lib.hid ho6
      have HV6 := Lib.hid hv6
      have hll := clIn_len l a
      have CLT := Lib.hid (fun j hj => clIn_lt l a (j := j) hj)
      generalize clIn l a = L at *
      clear ho6 hv6 k6 B5 B6 HW KA
      go_wp2_with fail
      go_loopw [40] (fun j wx => ∃ q : Nat, q ≤ L.length ∧ j = .int .i64 q ∧ Blk wx g5 35 (setCs a) ∧ Blk wx (g5 + 1) 35 (setCs (orCl l (L.take q))) ∧ wx.ownsRow ws.heap.size 3 1 (.slice ao6 L.length cap6) L.length (ints L) ∧ Below w3.heap.size w3 wx) (fun j _ => L.length - (intOf j).toNat)
      case atStart => exact ⟨0, by omega, rfl, B5'.out, B6'.out, HO6.out, HW6.out⟩
      case round =>
        clear B5' B6' HO6 HW6
        obtain ⟨q, hq, rfl, h5, h6, ho, hw⟩ := hrel
        by_cases hlq : q < L.length
        · have t3 : decide (q < L.length) = true := by simp; omega
          obtain ⟨gL, rfl, hgL, _⟩ := HV6.out (by omega)
          have cL : wr.cell? ⟨gL, q, none⟩ = some (.int .i64 (L[q] : Nat)) := (ho.cellAt q (by omega)).trans (by unfold ints; rw [List.getElem?_map, List.getElem?_eq_getElem hlq]; rfl)
          have TK := Lib.hid (show orCl l (L.take (q + 1)) = orS (orCl l (L.take q)) (clSet l (L[q] : Nat)) from by rw [List.take_succ_eq_append_getElem hlq, orCl_snoc])
          have OQ := Lib.hid (fun w1 h => OC.out p L[q] w1 h)
          have RQ := Lib.hid (fun w1 => show Calls Tryd.prog 19 #[setV (orCl l (L.take q)), setV (clSet l (L[q] : Nat))] w1 fun e w' => e = .returned (setV (orS (orCl l (L.take q)) (clSet l (L[q] : Nat)))) ∧ Below w1.heap.size w1 w' from or_c _ _ (orCl_ok HOK.out _) (clSet_ok HOK.out _) w1)
          have PQ := Lib.hid (P3.out.below hw)
          have HN1 := Lib.hid (show setV (orS (orCl l (L.take q)) (clSet l (L[q] : Nat))) = .agg (setCs (orS (orCl l (L.take q)) (clSet l (L[q] : Nat)))) from rfl)
          rw [HN1.out] at RQ
          unfold setV at OQ RQ
          generalize hT : orS (orCl l (L.take q)) (clSet l (L[q] : Nat)) = T at *
          have HTT := Lib.hid hT
          clear hT
          generalize clSet l (L[q] : Nat) = S at *
          generalize orCl l (L.take q) = O at *
          generalize hLq : L[q] = c at *
          clear hLq
          have H5 := Lib.hid h5
          have H6 := Lib.hid h6
          have HO := Lib.hid ho
          have HW := Lib.hid hw
          clear h5 h6 ho hw
          go_upto_region 11 with fail
          have d0 : ∀ x : Ext wr, x.v.cell? ⟨g5 + 1, 0, none⟩ = some (.int .u64 (O 0)) := fun x => H6.out.ext x 0
          have d1 : ∀ x : Ext wr, x.v.cell? ⟨g5 + 1, 1, none⟩ = some (.int .u64 (O 1)) := fun x => H6.out.ext x 1
          have d2 : ∀ x : Ext wr, x.v.cell? ⟨g5 + 1, 2, none⟩ = some (.int .u64 (O 2)) := fun x => H6.out.ext x 2
          have d3 : ∀ x : Ext wr, x.v.cell? ⟨g5 + 1, 3, none⟩ = some (.int .u64 (O 3)) := fun x => H6.out.ext x 3
          refine wp_region_ext_tail 5 (by kernel_rfl) (by kernel_rfl) ?_
          simp only [List.take_succ_cons, List.take_zero, List.drop_succ_cons, List.drop_zero]
          repeat (go_big_quiet_step (first | (go_at_call 14; exact Calls.ext_of (OQ.out _ (PtOf.ext PQ.out _))) | (go_at_call 19; exact Calls.ext_of (RQ.out _))))
          refine wpQuiet_nil ?_
          intro _ hw'
          obtain ⟨xq, hw''⟩ := hw'
          subst hw''
          have Y5 := Lib.hid (H5.out.below xq.h)
          have Y6 := H6.out.below xq.h
          have YO := Lib.hid (own_below HO.out xq.h)
          have YW := Lib.hid (below_step HW.out xq.h)
          have HY6 := Lib.hid Y6
          clear Y6 H5 H6 HO HW d0 d1 d2 d3 cL
          generalize xq.v = wy at *
          refine wpList_store_row rfl 35 _ _ rfl (g5 + 1) _ rfl rfl 35 _ HY6.out info_set4 rfl (setCs_ok _) ?_
          have Z5 := Lib.hid (Y5.out.rowFar (k := g5 + 1) (by omega) (setCs T))
          have Z6 := Lib.hid (HY6.out.row (setCs T))
          have ZO := Lib.hid (own_row YO.out (g := g5 + 1) (fun e => by have := (YO.out.lt _ e).1; omega) (setCs T))
          have ZW := Lib.hid (below_row YW.out (g := g5 + 1) (by omega) (setCs T))
          clear Y5 HY6 YO YW
          generalize wy.setRow _ _ = wz at *
          go_wp2_with fail
          go_roundw
          case rel => exact ⟨q + 1, by omega, by go_num, Z5.out, by rw [TK.out]; exact Z6.out, ZO.out, ZW.out⟩
          case measure => go_light; simp [intOf]; omega
        · have t3 : decide (q < L.length) = false := by simp; omega
          obtain rfl : q = L.length := by omega
          rw [List.take_length, OA.out] at h6
          have HW := Lib.hid hw
          obtain ⟨a0, a1, a2, a3⟩ := Blk.four (S := a) h5
          obtain ⟨b0, b1, b2, b3⟩ := Blk.four (S := a) h6
          clear h5 h6 ho hw
          go_wp2_with fail
          go_roundw
          case rel => exact ⟨i + 1, by omega, by go_num, HW.out⟩
          case measure => go_light; simp [intOf]; omega
    · have t2 : decide (i < l.length) = false := by simp; omega
      have P4 := Lib.hid (P3.out.below hw)
      have HW := Lib.hid hw
      clear hw
      go_wp2_with fail
      refine (LC.out _ _ P4.out).mono ?_; rintro e w4 ⟨rfl, k4⟩
      have HW4 := Lib.hid (below_step HW.out k4)
      clear k4 P4 HW
      go_wp2_with fail
      go_loopw [56] (fun j wx => ∃ x : Nat, x ≤ nc l ∧ j = .int .i64 x ∧ Below w3.heap.size w3 wx) (fun j _ => nc l - (intOf j).toNat)
      case atStart => exact ⟨0, by omega, rfl, HW4.out⟩
      case round =>
        clear HW4
        obtain ⟨x, hx, rfl, hw⟩ := hrel
        by_cases hlx : x < nc l
        · have t3 : decide (x < nc l) = true := by simp; omega
          have SX := Lib.hid (fun w1 ht h => SC.out p x w1 ht h)
          rw [smp_in HOK.out hlx] at SX
          have TA := Lib.hid (fun y (hy : y < x) => told_apart hlx hy)
          obtain ⟨hbx, _, _⟩ := lb_fact l hlx
          have HW := Lib.hid hw
          clear hw
          go_wp2_with fail
          go_loopw [60] (fun j wx => ∃ y : Nat, y ≤ x ∧ j = .int .i64 y ∧ Below w3.heap.size w3 wx) (fun j _ => x - (intOf j).toNat)
          case atStart => exact ⟨0, by omega, rfl, HW.out⟩
          case round =>
            clear HW
            obtain ⟨y, hy, rfl, hw⟩ := hrel
            by_cases hly : y < x
            · have t4 : decide (y < x) = true := by simp; omega
              have SY := Lib.hid (fun w1 ht h => SC.out p y w1 ht h)
              rw [smp_in HOK.out (show y < nc l by omega)] at SY
              obtain ⟨hby, _, _⟩ := lb_fact l (show y < nc l by omega)
              have TY := Lib.hid (TA.out y hly)
              have h6 : IntKind.i64.wrap ((lb l x : Nat) : Int) = (lb l x : Nat) := IntWalk.i64_in _ (by omega)
              have h7 : IntKind.i64.wrap ((lb l y : Nat) : Int) = (lb l y : Nat) := IntWalk.i64_in _ (by omega)
              have P5 := Lib.hid (P3.out.below hw)
              have T5 := Lib.hid (TabAt.below (TabAt.below HT.out W3.out) hw)
              have HW := Lib.hid hw
              clear hw
              generalize lb l x = bx at *
              generalize lb l y = by' at *
              go_wp2_with fail
              refine (SX.out _ T5.out P5.out).mono ?_; rintro e w5 ⟨rfl, k5⟩
              have P6 := Lib.hid (P5.out.below k5)
              have T6 := Lib.hid (TabAt.below T5.out k5)
              have HW5 := Lib.hid (below_step HW.out k5)
              clear k5 P5 T5 HW
              go_wp2_with fail
              refine (SY.out _ T6.out P6.out).mono ?_; rintro e w6 ⟨rfl, k6⟩
              have HW6 := Lib.hid (below_step HW5.out k6)
              clear k6 P6 T6 HW5
              go_wp2_with fail
              go_loopw [15, 77] (fun s j wx => ∃ q : Nat, q ≤ l.length ∧ j = .int .i64 q ∧ s = .bool (!same (l.take q) bx by') ∧ Below w3.heap.size w3 wx) (fun _ j _ => l.length - (intOf j).toNat)
              case atStart => exact ⟨0, by omega, rfl, by rw [List.take_zero, same_nil]; rfl, HW6.out⟩
              case round =>
                clear HW6
                obtain ⟨q, hq, rfl, rfl, hw⟩ := hrel
                by_cases hlq : q < l.length
                · have t5 : decide (q < l.length) = true := by simp; omega
                  obtain ⟨b, off, rfl, hb, c0, c1, c2, c3⟩ := (V3.out.below hw).at_ hlq
                  have ST := Lib.hid (same_take' hlq bx by')
                  have RX := Lib.hid (fun w1 => rhas_c l[q] (HOK.out _ (List.getElem_mem hlq)) bx hbx w1)
                  have RY := Lib.hid (fun w1 => rhas_c l[q] (HOK.out _ (List.getElem_mem hlq)) by' hby w1)
                  unfold setV at RX RY
                  generalize has l[q] bx = u at *
                  generalize has l[q] by' = z at *
                  generalize l[q] = S at *
                  have BX := Lib.hid (Blk.made wr 35 (setCs S))
                  have HW := Lib.hid (below_alloc hw (.cells (setCs S) 35))
                  unfold setCs at BX HW
                  generalize same (l.take q) bx by' = sm at *
                  clear hw
                  go_upto_region 28 with fail
                  clear c0 c1 c2 c3
                  generalize wr.heap.size = g8 at *
                  generalize wr.alloc _ = wz at *
                  have d0 : ∀ x : Ext wz, x.v.cell? ⟨g8, 0, none⟩ = some (.int .u64 (S 0)) := fun x => BX.out.ext x 0
                  have d1 : ∀ x : Ext wz, x.v.cell? ⟨g8, 1, none⟩ = some (.int .u64 (S 1)) := fun x => BX.out.ext x 1
                  have d2 : ∀ x : Ext wz, x.v.cell? ⟨g8, 2, none⟩ = some (.int .u64 (S 2)) := fun x => BX.out.ext x 2
                  have d3 : ∀ x : Ext wz, x.v.cell? ⟨g8, 3, none⟩ = some (.int .u64 (S 3)) := fun x => BX.out.ext x 3
                  cases sm with
                  | true =>
                    simp only [Bool.not_true]
                    refine wp_region_ext (by kernel_rfl) (by kernel_rfl) ?_
                    repeat (go_big_quiet_step (first | (go_at_call 20; first | exact Calls.ext_of (RX.out _) | exact Calls.ext_of (RY.out _))))
                    refine wpQuiet_nil ?_
                    intro _ hw'
                    obtain ⟨xq, hw''⟩ := hw'
                    subst hw''
                    have HWy := Lib.hid (below_step HW.out xq.h)
                    clear HW BX d0 d1 d2 d3
                    generalize xq.v = wy at *
                    go_wp2_with fail
                    go_roundw
                    case rel => exact ⟨q + 1, by omega, by go_num, by rw [ST.out]; cases u <;> cases z <;> rfl, HWy.out⟩
                    case measure => go_light; simp [intOf]; omega
                  | false =>
                    simp only [Bool.not_false]
                    refine wp_region_ext (by kernel_rfl) (by kernel_rfl) ?_
                    repeat (go_big_quiet_step (first | (go_at_call 20; first | exact Calls.ext_of (RX.out _) | exact Calls.ext_of (RY.out _))))
                    refine wpQuiet_nil ?_
                    intro _ hw'
                    obtain ⟨xq, hw''⟩ := hw'
                    subst hw''
                    have HWy := Lib.hid (below_step HW.out xq.h)
                    clear HW BX d0 d1 d2 d3
                    generalize xq.v = wy at *
                    go_wp2_with fail
                    go_roundw
                    case rel => exact ⟨q + 1, by omega, by go_num, by rw [ST.out]; rfl, HWy.out⟩
                    case measure => go_light; simp [intOf]; omega
                · have t5 : decide (q < l.length) = false := by simp; omega
                  have e3 : l.take q = l := List.take_of_length_le (by omega)
                  rw [e3, TY.out]
                  have HW := Lib.hid hw
                  clear hw
                  go_wp2_with fail
                  go_roundw
                  case rel => exact ⟨y + 1, by omega, by go_num, HW.out⟩
                  case measure => go_light; simp [intOf]; omega
            · have t4 : decide (y < x) = false := by simp; omega
              have HW := Lib.hid hw
              clear hw
              go_wp2_with fail
              go_roundw
              case rel => exact ⟨x + 1, by omega, by go_num, HW.out⟩
              case measure => go_light; simp [intOf]; omega
        · have t3 : decide (x < nc l) = false := by simp; omega
          go_wp2_with fail
          go_returns
          exact ⟨rfl, W3.out.trans (hw.mono W3.out.size)⟩
theorem cutl_c (l : List (Nat → Nat)) (ho : ∀ S ∈ l, okS S) (v : Value) (w : World) (hv : SetsR w v l) (hN : Nil0 v) (hT : TabAt 0 Lib.deBruijn64tab w) : Calls Tryd.prog 4 #[v] w fun e w' => e = .returned (.bool true) ∧ Below w.heap.size w w' := by
  by_cases hl : l.length ≤ 30
  · exact cutl_few l ho hl v w hv hN hT
  · exact cutl_big l (by omega) v w hv hT
end Go.Proofs.YtonicgbejmghkaaDoor
