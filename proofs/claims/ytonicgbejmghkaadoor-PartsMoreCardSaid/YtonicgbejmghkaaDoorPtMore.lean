/- The walk of PartsMore. -/
import Derived.Test.YtonicgbejmghkaaDoorPtPure3
import Derived.Deep.RegionHeld
namespace Go.Proofs.YtonicgbejmghkaaDoor
open Go.RowKit
theorem reps_fine {r q : Nat → Nat → Bool} (E : Eqv r) (h : ∀ a b, q a b = true → r a b = true) : ∀ n, (reps r n).length ≤ (reps q n).length
  | 0 => Nat.le_refl _
  | n + 1 => by
    have ih := reps_fine E h n
    show (if _ then _ else _ : List Nat).length ≤ (if _ then _ else _ : List Nat).length
    by_cases hr : (reps r n).any (fun a => r a n) = true
    · rw [if_pos hr]
      split
      · exact ih
      · rw [List.length_append]; omega
    · rw [if_neg hr, if_neg ?_, List.length_append, List.length_append]
      · simpa using ih
      · intro hq
        obtain ⟨a, ha, haq⟩ := List.any_eq_true.1 hq
        obtain ⟨x, hx, hxa, _⟩ := reps_all E.refl n a (reps_lt q n a ha)
        exact hr (List.any_eq_true.2 ⟨x, hx, E.trans hxa (h a n haq)⟩)
theorem nc_more (l : List (Nat → Nat)) (S : Nat → Nat) : nc l ≤ nc (([] ++ l) ++ [S]) := by
  unfold nc
  refine reps_fine (eqv_same l) (fun a b h => ?_) 256
  rw [List.nil_append, same_snoc] at h
  exact (Bool.and_eq_true _ _ ▸ h).1
theorem same_more {l : List (Nat → Nat)} {S : Nat → Nat} {a b : Nat} (h : same (([] ++ l) ++ [S]) a b = true) : same l a b = true := by
  rw [List.nil_append, same_snoc] at h
  exact (Bool.and_eq_true _ _ ▸ h).1
theorem rm_more (l : List (Nat → Nat)) (S : Nat → Nat) : rmV ([S] ++ l) = rmV (([] ++ l) ++ [S]) := rm_congr fun a b _ _ => by
  rw [List.nil_append, same_app, same_app, Bool.and_comm]
theorem sub_more {l : List (Nat → Nat)} {S : Nat → Nat} (ho : ∀ T ∈ l, okS T) (hS : okS S) {c : Nat} (hc : c < nc (([] ++ l) ++ [S])) : setV (andS (clSet (([] ++ l) ++ [S]) (c : Nat)) (clSet l (cl l (lb (([] ++ l) ++ [S]) c) : Nat))) = setV (clSet (([] ++ l) ++ [S]) (c : Nat)) := by
  have hom : ∀ T ∈ ([] ++ l) ++ [S], okS T := app_ok (by simpa using ho) (by intro T hT; rw [List.mem_singleton.1 hT]; exact hS)
  obtain ⟨h1, h2, _⟩ := lb_fact _ hc
  have key : ∀ i, i < 4 → andS (clSet (([] ++ l) ++ [S]) (c : Nat)) (clSet l (cl l (lb (([] ++ l) ++ [S]) c) : Nat)) i = clSet (([] ++ l) ++ [S]) (c : Nat) i := fun i hi => by
    refine set_ext (and_ok (clSet_ok hom _)) (clSet_ok hom _) (fun b hb => ?_) i hi
    rw [has_and, clSet_at hom hc hb, clSet_at ho (cl_lt l h1) hb]
    by_cases e : cl (([] ++ l) ++ [S]) b = c
    · have h3 := (cl_iff _ hb h1).1 (e.trans h2.symm)
      have h4 := (cl_iff l hb h1).2 (same_more h3)
      rw [decide_eq_true e, decide_eq_true h4]; rfl
    · rw [decide_eq_false e]; rfl
  unfold setV
  rw [key 0 (by omega), key 1 (by omega), key 2 (by omega), key 3 (by omega)]
theorem SetsR.grownOne {w w' : World} {g n c : Nat} {l : List (Nat → Nat)} {row : Option Nat} (h : SetsR w (.slice (some ⟨g, 0, none⟩) n c) l) (k : w.grownBy w' row) (hne : some g ≠ row) : SetsR w' (.slice (some ⟨g, 0, none⟩) n c) l := by
  obtain ⟨ao, cap, e, h⟩ := h
  refine ⟨ao, cap, e, fun h0 => ?_⟩
  obtain ⟨b, off, e2, hb, hc⟩ := h h0
  have e3 : b = g ∧ off = 0 := by
    subst e2
    injection e with e4 _ _
    injection e4 with e4
    injection e4 with e5 e6 _
    exact ⟨e5.symm, e6.symm⟩
  obtain ⟨rfl, rfl⟩ := e3
  have kk := fun o => k.cell_far ⟨b, o, none⟩ hb hne
  refine ⟨b, 0, e2, Nat.lt_of_lt_of_le hb k.size, fun i hi => ?_⟩
  obtain ⟨c0, c1, c2, c3⟩ := hc i hi
  exact ⟨(kk _).trans c0, (kk _).trans c1, (kk _).trans c2, (kk _).trans c3⟩
theorem PtOf.ext {w : World} {p : Nat} {l : List (Nat → Nat)} (h : PtOf w p l) (x : Ext w) : PtOf x.v p l := h.below x.h
attribute [local irreducible] Calls nc cl lb cntS clSet fnV rmV same
set_option maxHeartbeats 4000000 in
set_option maxRecDepth 100000 in
theorem more_big (l : List (Nat → Nat)) (a : Nat → Nat) (hl : 20 < l.length) (v : Value) (w : World) (hv : SetsR w v l) (hT : TabAt 0 Lib.deBruijn64tab w) : Calls Tryd.prog 5 #[v, setV a] w fun e w' => e = .returned (.bool true) ∧ Below w.heap.size w w' := by
  have AW := Lib.hid (fun w1 ht => awake_c w1 ht)
  have HT := Lib.hid hT
  obtain ⟨ao, cap, rfl, _⟩ := hv
  have t1 : decide ((20 : Int) < (l.length : Nat)) = true := by simp; omega
  have W0 := Lib.hid (below_alloc (Below.refl w.heap.size w) (.cells (setCs a) 35))
  unfold setCs at W0
  unfold setV
  clear hT
  go_enter Tryd.func5, Tryd.ntmps5
  go_wp2_with fail
  refine (AW.out _ (TabAt.below HT.out W0.out)).mono ?_; rintro e w1 ⟨rfl, k1⟩
  have W1 := Lib.hid (below_step W0.out k1)
  clear k1
  go_wp2_with fail
  refine (AW.out _ (TabAt.below HT.out W1.out)).mono ?_; rintro e w2 ⟨rfl, k2⟩
  go_wp2_with fail
  go_returns
  exact ⟨rfl, below_step W1.out k2⟩
set_option maxHeartbeats 8000000 in
set_option maxRecDepth 100000 in
theorem more_few (l : List (Nat → Nat)) (ho : ∀ S ∈ l, okS S) (a : Nat → Nat) (ha : okS a) (hl : l.length ≤ 20) (v : Value) (w : World) (hv : SetsR w v l) (hN : Nil0 v) (hT : TabAt 0 Lib.deBruijn64tab w) : Calls Tryd.prog 5 #[v, setV a] w fun e w' => e = .returned (.bool true) ∧ Below w.heap.size w w' := by
  have AW := Lib.hid (fun w1 ht => awake_c w1 ht)
  have HT := Lib.hid hT
  have HN := Lib.hid hN
  have HV := Lib.hid hv
  have HOK := Lib.hid ho
  have hom : ∀ T ∈ ([] ++ l) ++ [a], okS T := app_ok (by simpa using ho) (by intro T hT; rw [List.mem_singleton.1 hT]; exact ha)
  have t1 : decide ((20 : Int) < (l.length : Nat)) = false := by simp; omega
  have hnm := nc_more l a
  have hnc := nc_le (([] ++ l) ++ [a])
  have hnl := nc_le l
  have CP := Lib.hid (fun v1 w1 h => cut_c ([] ++ l) (by simpa using ho) (by simp; omega) v1 w1 h)
  rw [show ([] ++ l : List (Nat → Nat)) = l from List.nil_append l] at CP
  have CQ := Lib.hid (fun v1 w1 h => cut_c (([] ++ l) ++ [a]) hom (by simp; omega) v1 w1 h)
  have CT := Lib.hid (fun v1 w1 h => cut_c ([a] ++ l) (app_ok (by intro T hT; rw [List.mem_singleton.1 hT]; exact ha) ho) (by simp; omega) v1 w1 h)
  have LP := Lib.hid (fun p w1 h => len_of (p := p) (l := l) w1 h)
  have LQ := Lib.hid (fun p w1 h => len_of (p := p) (l := ([] ++ l) ++ [a]) w1 h)
  have RQ := Lib.hid (fun p w1 h => remap_of (p := p) (l := ([] ++ l) ++ [a]) w1 h)
  have RT := Lib.hid (fun p w1 h => remap_of (p := p) (l := [a] ++ l) w1 h)
  rw [rm_more] at RT
  have SQ := Lib.hid (fun p (c : Nat) w1 ht h => smp_of (p := p) hom (c : Nat) w1 ht h)
  have SIN := Lib.hid (fun c hc => smp_in hom (c := c) hc)
  have KP := Lib.hid (fun p b hb w1 h => class_of (p := p) (l := l) (b := b) hb w1 h)
  have OP := Lib.hid (fun p (c : Nat) w1 h => of_of (p := p) (l := l) (c : Nat) w1 h)
  have OQ := Lib.hid (fun p (c : Nat) w1 h => of_of (p := p) (l := ([] ++ l) ++ [a]) (c : Nat) w1 h)
  have AC := Lib.hid (fun c (hc : c < nc (([] ++ l) ++ [a])) w1 => show Calls Tryd.prog 21 #[setV (clSet (([] ++ l) ++ [a]) (c : Nat)), setV (clSet l (cl l (lb (([] ++ l) ++ [a]) c) : Nat))] w1 fun e w' => e = .returned (setV (clSet (([] ++ l) ++ [a]) (c : Nat))) ∧ Below w1.heap.size w1 w' from by
    have := and_c (clSet (([] ++ l) ++ [a]) (c : Nat)) (clSet l (cl l (lb (([] ++ l) ++ [a]) c) : Nat)) (clSet_ok hom _) (clSet_ok ho _) w1
    rw [show setV (fun i => clSet (([] ++ l) ++ [a]) (c : Nat) i &&& clSet l (cl l (lb (([] ++ l) ++ [a]) c) : Nat) i) = setV (clSet (([] ++ l) ++ [a]) (c : Nat)) from sub_more ho ha hc] at this
    exact this)
  have LBF := Lib.hid (fun c hc => lb_fact (([] ++ l) ++ [a]) (c := c) hc)
  have CLL := Lib.hid (fun b hb => cl_lt l (b := b) hb)
  have EQ := fun w1 => rm_same (([] ++ l) ++ [a]) w1
  have ES := fun (a0 a1 a2 a3 : Int) (w1 : World) => set_same a0 a1 a2 a3 w1
  have t2 : decide (nc (([] ++ l) ++ [a]) < nc l) = false := decide_eq_false (by omega)
  generalize hM : ([] ++ l) ++ [a] = M at *
  have HM := Lib.hid hM
  clear hM
  generalize rmV M = RV at *
  generalize hmm : nc M = m at *
  have HMM := Lib.hid hmm
  clear hmm hom
  have A0 := Lib.hid (Blk.made w 35 (setCs a))
  have W0 := Lib.hid (below_alloc (Below.refl w.heap.size w) (.cells (setCs a) 35))
  have W0' := W0
  unfold setCs at W0
  obtain ⟨ao, cap, rfl, _⟩ := hv
  unfold setV
  clear hT hN ho ha
  go_enter Tryd.func5, Tryd.ntmps5
  go_wp2_with fail
  refine (AW.out _ (TabAt.below HT.out W0.out)).mono ?_; rintro e w1 ⟨rfl, k1⟩
  have W1 := Lib.hid (below_step W0.out k1)
  have A1 := Lib.hid ((A0.out.below k1).alloc (.cells #[] 35))
  have hs1 := W1.out.size
  have V1 := Lib.hid (HV.out.below (below_alloc W1.out (.cells #[] 35)))
  have W1' := Lib.hid (below_alloc W1.out (.cells #[] 35))
  have ON1 := Lib.hid (own_none w1 (w.heap.size + 1) (by have := (A0.out.below k1).lt; omega))
  clear k1 A0 W0 W0'
  go_wp2_with (at_builtin; refine wpList_copy rfl _ _ rfl (w.heap.size + 1) [] l _ _ rfl ON1.out rfl V1.out HN.out (by simp; omega) (by have := A1.out.lt; omega) ?_)
  intro v2 w2 ho2 hg2
  have S2 := Lib.hid (own_sets (l := l) (by simpa using ho2))
  have W2 := Lib.hid (Below.grown W1'.out hg2 (by rw [World.size_alloc]; omega) (fun g h => by have := (ON1.out.lt g h).1; omega))
  have A2 := Lib.hid (A1.out.grown hg2 (fun e => by have := (ON1.out.lt _ e.symm).1; omega))
  clear ho2 hg2 ON1 W1' V1 W1 A1
  go_wp2_with fail
  refine (CP.out _ _ S2.out).mono ?_; rintro e w3 ⟨p, rfl, _, hp3, k3⟩
  have W3 := Lib.hid (below_step W2.out k3)
  have A3 := Lib.hid (A2.out.below k3)
  have P3 := Lib.hid hp3
  clear k3 hp3 S2 W2 A2
  go_wp2_with fail
  have TV := Lib.hid (HV.out.below W3.out)
  have hA3 := A3.out.lt
  have B0 := Blk.drew A3.out
  refine wp_region_held_drew (S := fun w' => w'.cell? ⟨w.heap.size, 0, none⟩ = some (.int .u64 (a 0)) ∧ w'.cell? ⟨w.heap.size, 1, none⟩ = some (.int .u64 (a 1)) ∧ w'.cell? ⟨w.heap.size, 2, none⟩ = some (.int .u64 (a 2)) ∧ w'.cell? ⟨w.heap.size, 3, none⟩ = some (.int .u64 (a 3))) (by kernel_rfl) (Blk.four (S := a) B0) (fun hHeld => ?_)
  refine' wpAnyH_take (i := 1) (v := _) rfl (by kernel_rfl) (by kernel_rfl) (by kernel_rfl) (fun _ _ _ h => h) (Or.inl ⟨by rfl, ?hy1⟩) (by assumption) ?r1
  case hy1 => (intro w hSw; (try dsimp only at hSw); go_simp; with_reducible rfl)
  try simp only [Act.put]
  refine' wpAnyH_take (i := 3) (v := _) rfl (by kernel_rfl) (by kernel_rfl) (by kernel_rfl) (fun _ _ _ h => h) (Or.inl ⟨by rfl, ?hy3⟩) (by assumption) ?r3
  case hy3 => (intro w hSw; (try dsimp only at hSw); go_simp; with_reducible rfl)
  try simp only [Act.put]
  have DW := Lib.hid (show Below w3.heap.size w3 w3.drew from ⟨rfl, rfl, rfl, Nat.le_refl _, fun _ _ => rfl⟩)
  have B00 := B0.alloc (.cells #[] 35)
  have B0A := B0.alloc (.cells #[.int .u64 (a 0), .int .u64 (a 1), .int .u64 (a 2), .int .u64 (a 3)] 35)
  have D0N := below_alloc DW.out (.cells #[] 35)
  have D0A := below_alloc DW.out (.cells #[.int .u64 (a 0), .int .u64 (a 1), .int .u64 (a 2), .int .u64 (a 3)] 35)
  refine wpAnyH_ready (rs := [0, 4]) (by kernel_rfl) (by simp) (AllReadyH.cons rfl (fun K' hK => ?_) (AllReadyH.cons rfl (fun K' hK => ?_) AllReadyH.nil))
  · go_simp
    refine hK.out _ _ (Blk.four (S := a) (B00)) (fun hHeld => ?_)
    clear hK K'
    refine wpAnyH_ready (rs := [2, 4]) (by kernel_rfl) (by simp) (AllReadyH.cons rfl (fun K' hK => ?_) (AllReadyH.cons rfl (fun K' hK => ?_) AllReadyH.nil))
    · rw [if_pos (by rfl)]
      have OW := own_none w3.drew w3.heap.size (Nat.le_refl _)
      have SV := TV.out.below (D0N)
      have hd0 := (D0N).size
      refine wp_copy _ _ rfl w3.heap.size [] l _ _ rfl OW rfl SV HN.out (by simp; omega) hd0 ?_
      intro v9 y1 ho1 hgr1
      have D3 := Below.grown (D0N) hgr1 hd0 (fun g h => (OW.lt g h).1)
      have B3 := Blk.grown (B00) hgr1 (fun e => by have h8 := (OW.lt _ e.symm).1; omega)
      have hd3 := D3.size
      refine hK.out _ _ (Blk.four (S := a) B3) (fun hHeld => ?_)
      clear hK K'
      refine wpAnyH_ready (rs := [4]) (by kernel_rfl) (by simp) (AllReadyH.cons rfl (fun K' hK => ?_) AllReadyH.nil)
      go_simp
      refine hK.out _ _ (Blk.four (S := a) (B3.alloc (.cells #[.int .u64 (a 0), .int .u64 (a 1), .int .u64 (a 2), .int .u64 (a 3)] 35))) (fun hHeld => ?_)
      clear hK K'
      have SA := sets_lit y1 [a] (by simp)
      have DA := below_alloc D3 (.cells #[.int .u64 (a 0), .int .u64 (a 1), .int .u64 (a 2), .int .u64 (a 3)] 35)
      have BA := B3.alloc (.cells #[.int .u64 (a 0), .int .u64 (a 1), .int .u64 (a 2), .int .u64 (a 3)] 35)
      have OA := World.ownsRow.alloc ho1 (.cells #[.int .u64 (a 0), .int .u64 (a 1), .int .u64 (a 2), .int .u64 (a 3)] 35)
      refine wpAnyH_ready (rs := [5]) (by kernel_rfl) (by simp) (AllReadyH.cons rfl (fun K' hK => ?_) AllReadyH.nil)
      rw [if_pos (by rfl)]
      have hd4 := (DA).size
      refine wp_copy _ _ rfl w3.heap.size ([] ++ l) [a] _ _ rfl OA rfl SA (.inr ⟨_, _, _, rfl⟩) (by simp; omega) hd4 ?_
      intro v10 y2 ho2 hgr2
      have D5 := Below.grown (DA) hgr2 hd4 (fun g h => (ho1.lt g h).1)
      have B5 := Blk.grown (BA) hgr2 (fun e => by have h8 := (ho1.lt _ e.symm).1; omega)
      rw [HM.out] at ho2
      refine hK.out _ _ (Blk.four (S := a) B5) (fun hHeld => ?_)
      clear hK K'
      refine wpAnyH_ready (rs := [6]) (by kernel_rfl) (by simp) (AllReadyH.cons rfl (fun K' hK => ?_) AllReadyH.nil)
      go_simp
      go_wp2_with (go_at_call 9; refine (CQ.out _ _ (own_sets ho2)).mono ?_; rintro e x3 ⟨q, rfl, _, hq3, k3⟩; have B6 := B5.below k3; have D6 := below_step D5 k3)
      refine hK.out _ _ (Blk.four (S := a) B6) (fun hHeld => ?_)
      clear hK K'
      refine wpAnyH_ready (rs := [7]) (by kernel_rfl) (by simp) (AllReadyH.cons rfl (fun K' hK => ?_) AllReadyH.nil)
      go_simp
      refine hK.out _ _ hHeld (fun hHeld => ?_)
      clear hK K'
      refine wpAnyH_done (by kernel_rfl) ?_ _
      have W6 := Lib.hid (below_step W3.out D6)
      have P6 := Lib.hid (P3.out.below D6)
      have Q6 := Lib.hid hq3
      have A6 := Lib.hid B6
      clear D3 D5 D6 B3 B5 B6 ho1 ho2 hgr1 hgr2 hq3 k3 SA B00 B0A D0N D0A DW SV OW hd0 hd3 hd4 hHeld hA3 B0 A3 W3 P3 TV
      obtain ⟨a0, a1, a2, a3⟩ := Blk.four (S := a) A6.out
      have hs6 := W6.out.size
      have OWA := Lib.hid (own_one x3 w.heap.size hs6 a)
      have VA := Lib.hid ((HV.out.below W6.out).below (below_alloc (Below.refl _ _) (.cells #[.int .u64 (a 0), .int .u64 (a 1), .int .u64 (a 2), .int .u64 (a 3)] 35)))
      have W6' := Lib.hid (below_alloc W6.out (.cells #[.int .u64 (a 0), .int .u64 (a 1), .int .u64 (a 2), .int .u64 (a 3)] 35))
      have P6' := Lib.hid (P6.out.below (below_alloc (Below.refl _ _) (.cells #[.int .u64 (a 0), .int .u64 (a 1), .int .u64 (a 2), .int .u64 (a 3)] 35)))
      have Q6' := Lib.hid (Q6.out.below (below_alloc (Below.refl _ _) (.cells #[.int .u64 (a 0), .int .u64 (a 1), .int .u64 (a 2), .int .u64 (a 3)] 35)))
      go_wp2_with (at_builtin; refine wpList_copy rfl _ _ rfl w.heap.size [a] l _ _ rfl OWA.out rfl VA.out HN.out (by simp; omega) (by rw [World.size_alloc]; omega) ?_)
      intro v7 w7 ho7 hg7
      have S7 := Lib.hid (own_sets ho7)
      have G7 := Below.grown (Below.refl x3.heap.size (x3.alloc (.cells #[.int .u64 (a 0), .int .u64 (a 1), .int .u64 (a 2), .int .u64 (a 3)] 35))) hg7 (by rw [World.size_alloc]; omega) (fun g h => by cases h; exact Nat.le_refl _)
      have W7 := Lib.hid (below_step W6.out ((below_alloc (Below.refl x3.heap.size x3) (.cells #[.int .u64 (a 0), .int .u64 (a 1), .int .u64 (a 2), .int .u64 (a 3)] 35)).trans G7))
      have P7 := Lib.hid (P6.out.below ((below_alloc (Below.refl x3.heap.size x3) (.cells #[.int .u64 (a 0), .int .u64 (a 1), .int .u64 (a 2), .int .u64 (a 3)] 35)).trans G7))
      have Q7 := Lib.hid (Q6.out.below ((below_alloc (Below.refl x3.heap.size x3) (.cells #[.int .u64 (a 0), .int .u64 (a 1), .int .u64 (a 2), .int .u64 (a 3)] 35)).trans G7))
      clear ho7 hg7 G7 OWA VA W6' P6' Q6' W6 P6 Q6 A6 a0 a1 a2 a3
      go_wp2_with fail
      refine (CT.out _ _ S7.out).mono ?_; rintro e w8 ⟨tp, rfl, _, hp8, k8⟩
      have W8 := Lib.hid (below_step W7.out k8)
      have P8 := Lib.hid (P7.out.below k8)
      have Q8 := Lib.hid (Q7.out.below k8)
      have T8 := Lib.hid hp8
      clear k8 hp8 W7 P7 Q7 S7
      go_wp2_with fail
      refine (LQ.out _ _ Q8.out).mono ?_; rintro e w9 ⟨rfl, k9⟩
      have W9 := Lib.hid (below_step W8.out k9)
      have P9 := Lib.hid (P8.out.below k9)
      have Q9 := Lib.hid (Q8.out.below k9)
      have T9 := Lib.hid (T8.out.below k9)
      clear k9 W8 P8 Q8 T8
      go_wp2_with fail
      refine (LP.out _ _ P9.out).mono ?_; rintro e z1 ⟨rfl, k1⟩
      have W1 := Lib.hid (below_step W9.out k1)
      have P1 := Lib.hid (P9.out.below k1)
      have Q1 := Lib.hid (Q9.out.below k1)
      have T1 := Lib.hid (T9.out.below k1)
      clear k1 W9 P9 Q9 T9
      go_wp2_with fail
      refine (RQ.out _ _ Q1.out).mono ?_; rintro e z2 ⟨rfl, k2⟩
      have W2 := Lib.hid (below_step W1.out k2)
      have P2 := Lib.hid (P1.out.below k2)
      have Q2 := Lib.hid (Q1.out.below k2)
      have T2 := Lib.hid (T1.out.below k2)
      clear k2 W1 P1 Q1 T1
      go_wp2_with fail
      refine (RT.out _ _ T2.out).mono ?_; rintro e z3 ⟨rfl, k3⟩
      have W3 := Lib.hid (below_step W2.out k3)
      have P3 := Lib.hid (P2.out.below k3)
      have Q3 := Lib.hid (Q2.out.below k3)
      clear k3 W2 P2 Q2 T2
      go_wp2_with fail
      refine (LQ.out _ _ Q3.out).mono ?_; rintro e z4 ⟨rfl, k4⟩
      have W4 := Lib.hid (below_step W3.out k4)
      have P4 := Lib.hid (P3.out.below k4)
      have Q4 := Lib.hid (Q3.out.below k4)
      clear k4 W3 P3 Q3
      go_wp2_with fail
      go_loopw [50] (fun j wx => ∃ c : Nat, c ≤ m ∧ j = .int .i64 c ∧ PtOf wx p l ∧ PtOf wx q M ∧ Below w.heap.size w wx) (fun j _ => m - (intOf j).toNat)
      case atStart => exact ⟨0, by omega, rfl, P4.out, Q4.out, W4.out⟩
      case round =>
        clear W4 P4 Q4
        obtain ⟨c, hc, rfl, hp, hq, hw⟩ := hrel
        by_cases hlc : c < m
        · have t5 : decide (c < m) = true := by simp; omega
          obtain ⟨hb1, _, _⟩ := LBF.out c hlc
          have SC := Lib.hid (fun w1 ht h => SQ.out q c w1 ht h)
          rw [SIN.out c hlc] at SC
          have KC := Lib.hid (fun w1 h => KP.out p (lb M c) hb1 w1 h)
          have OC := Lib.hid (fun w1 h => OP.out p (cl l (lb M c)) w1 h)
          have OD := Lib.hid (fun w1 h => OQ.out q c w1 h)
          have AD := Lib.hid (fun w1 => AC.out c hlc w1)
          have HP := Lib.hid hp
          have HQ := Lib.hid hq
          have HW := Lib.hid hw
          clear hp hq hw
          unfold setV at OC OD AD
          have hb2 := CLL.out (lb M c) hb1
          have h7 : IntKind.i64.wrap ((cl l (lb M c) : Nat) : Int) = (cl l (lb M c) : Nat) := IntWalk.i64_in _ (by omega)
          generalize clSet l (cl l (lb M c) : Nat) = SP at *
          generalize clSet M (c : Nat) = SM at *
          generalize cl l (lb M c) = d at *
          generalize lb M c = x at *
          go_wp2_with fail
          refine (SC.out _ (TabAt.below HT.out HW.out) HQ.out).mono ?_; rintro e y6 ⟨rfl, k6⟩
          have HW6 := Lib.hid (below_step HW.out k6)
          have HP6 := Lib.hid (HP.out.below k6)
          have HQ6 := Lib.hid (HQ.out.below k6)
          clear k6 HW HP HQ
          go_wp2_with fail
          refine (KC.out _ HP6.out).mono ?_; rintro e y7 ⟨rfl, k7⟩
          have HW7 := Lib.hid (below_step HW6.out k7)
          have HP7 := Lib.hid (HP6.out.below k7)
          have HQ7 := Lib.hid (HQ6.out.below k7)
          clear k7 HW6 HP6 HQ6
          go_wp2_with fail
          refine (OC.out _ HP7.out).mono ?_; rintro e y8 ⟨rfl, k8⟩
          have HW8 := Lib.hid (below_alloc (below_step HW7.out k8) (.cells (setCs SP) 35))
          have HP8 := Lib.hid ((HP7.out.below k8).below (below_alloc (Below.refl _ _) (.cells (setCs SP) 35)))
          have HQ8 := Lib.hid ((HQ7.out.below k8).below (below_alloc (Below.refl _ _) (.cells (setCs SP) 35)))
          have BX := Lib.hid (Blk.made y8 35 (setCs SP))
          clear k8 HW7 HP7 HQ7
          unfold setCs at HW8 HP8 HQ8 BX
          go_upto_region 13 with fail
          generalize y8.heap.size = g8 at *
          generalize y8.alloc _ = wz at *
          have d0 : ∀ x : Ext wz, x.v.cell? ⟨g8, 0, none⟩ = some (.int .u64 (SP 0)) := fun x => BX.out.ext x 0
          have d1 : ∀ x : Ext wz, x.v.cell? ⟨g8, 1, none⟩ = some (.int .u64 (SP 1)) := fun x => BX.out.ext x 1
          have d2 : ∀ x : Ext wz, x.v.cell? ⟨g8, 2, none⟩ = some (.int .u64 (SP 2)) := fun x => BX.out.ext x 2
          have d3 : ∀ x : Ext wz, x.v.cell? ⟨g8, 3, none⟩ = some (.int .u64 (SP 3)) := fun x => BX.out.ext x 3
          refine wp_region_ext (by kernel_rfl) (by kernel_rfl) ?_
          repeat (go_big_quiet_step (first | (go_at_call 14; exact Calls.ext_of (OD.out _ (PtOf.ext HQ8.out _))) | (go_at_call 21; exact Calls.ext_of (AD.out _))))
          refine wpQuiet_nil ?_
          intro _ hw'
          obtain ⟨xq, hw''⟩ := hw'
          subst hw''
          have HWy := Lib.hid (below_step HW8.out xq.h)
          have HPy := Lib.hid (HP8.out.below xq.h)
          have HQy := Lib.hid (HQ8.out.below xq.h)
          clear HW8 HP8 HQ8 BX d0 d1 d2 d3
          generalize xq.v = wy at *
          go_wp2_with fail
          go_roundw
          case rel => exact ⟨c + 1, by omega, by go_num, HPy.out, HQy.out, HWy.out⟩
          case measure => go_light; simp [intOf]; omega
        · have t5 : decide (c < m) = false := by simp; omega
          go_wp2_with fail
          go_returns
          exact ⟨rfl, hw⟩
    · go_simp
      refine hK.out _ _ (Blk.four (S := a) (B00.alloc (.cells #[.int .u64 (a 0), .int .u64 (a 1), .int .u64 (a 2), .int .u64 (a 3)] 35))) (fun hHeld => ?_)
      clear hK K'
      refine wpAnyH_ready (rs := [2]) (by kernel_rfl) (by simp) (AllReadyH.cons rfl (fun K' hK => ?_) AllReadyH.nil)
      rw [if_pos (by rfl)]
      have OW := (World.ownsRow.alloc (own_none w3.drew w3.heap.size (Nat.le_refl _)) (.cells #[.int .u64 (a 0), .int .u64 (a 1), .int .u64 (a 2), .int .u64 (a 3)] 35))
      have SV := TV.out.below (below_alloc D0N (.cells #[.int .u64 (a 0), .int .u64 (a 1), .int .u64 (a 2), .int .u64 (a 3)] 35))
      have hd0 := (below_alloc D0N (.cells #[.int .u64 (a 0), .int .u64 (a 1), .int .u64 (a 2), .int .u64 (a 3)] 35)).size
      refine wp_copy _ _ rfl w3.heap.size [] l _ _ rfl OW rfl SV HN.out (by simp; omega) hd0 ?_
      intro v9 y1 ho1 hgr1
      have D3 := Below.grown (below_alloc D0N (.cells #[.int .u64 (a 0), .int .u64 (a 1), .int .u64 (a 2), .int .u64 (a 3)] 35)) hgr1 hd0 (fun g h => (OW.lt g h).1)
      have B3 := Blk.grown (B00.alloc (.cells #[.int .u64 (a 0), .int .u64 (a 1), .int .u64 (a 2), .int .u64 (a 3)] 35)) hgr1 (fun e => by have h8 := (OW.lt _ e.symm).1; omega)
      have hd3 := D3.size
      have SA0 : SetsR ((w3.drew.alloc (.cells #[] 35)).alloc (.cells #[.int .u64 (a 0), .int .u64 (a 1), .int .u64 (a 2), .int .u64 (a 3)] 35)) (.slice (some ⟨w3.heap.size + 1, 0, none⟩) 1 1) [a] := by have h := sets_lit (w3.drew.alloc (.cells #[] 35)) [a] (by simp); rw [World.size_alloc] at h; exact h
      have SA := SetsR.grownOne SA0 hgr1 (fun e => by have h8 : w3.heap.size + 1 = w3.heap.size := (by injection e); omega)
      refine hK.out _ _ (Blk.four (S := a) B3) (fun hHeld => ?_)
      clear hK K'
      refine wpAnyH_ready (rs := [5]) (by kernel_rfl) (by simp) (AllReadyH.cons rfl (fun K' hK => ?_) AllReadyH.nil)
      rw [if_pos (by rfl)]
      have hd4 := (D3).size
      refine wp_copy _ _ rfl w3.heap.size ([] ++ l) [a] _ _ rfl ho1 rfl SA (.inr ⟨_, _, _, rfl⟩) (by simp; omega) hd4 ?_
      intro v10 y2 ho2 hgr2
      have D5 := Below.grown (D3) hgr2 hd4 (fun g h => (ho1.lt g h).1)
      have B5 := Blk.grown (B3) hgr2 (fun e => by have h8 := (ho1.lt _ e.symm).1; omega)
      rw [HM.out] at ho2
      refine hK.out _ _ (Blk.four (S := a) B5) (fun hHeld => ?_)
      clear hK K'
      refine wpAnyH_ready (rs := [6]) (by kernel_rfl) (by simp) (AllReadyH.cons rfl (fun K' hK => ?_) AllReadyH.nil)
      go_simp
      go_wp2_with (go_at_call 9; refine (CQ.out _ _ (own_sets ho2)).mono ?_; rintro e x3 ⟨q, rfl, _, hq3, k3⟩; have B6 := B5.below k3; have D6 := below_step D5 k3)
      refine hK.out _ _ (Blk.four (S := a) B6) (fun hHeld => ?_)
      clear hK K'
      refine wpAnyH_ready (rs := [7]) (by kernel_rfl) (by simp) (AllReadyH.cons rfl (fun K' hK => ?_) AllReadyH.nil)
      go_simp
      refine hK.out _ _ hHeld (fun hHeld => ?_)
      clear hK K'
      refine wpAnyH_done (by kernel_rfl) ?_ _
      have W6 := Lib.hid (below_step W3.out D6)
      have P6 := Lib.hid (P3.out.below D6)
      have Q6 := Lib.hid hq3
      have A6 := Lib.hid B6
      clear D3 D5 D6 B3 B5 B6 ho1 ho2 hgr1 hgr2 hq3 k3 SA B00 B0A D0N D0A DW SV OW hd0 hd3 hd4 hHeld hA3 B0 A3 W3 P3 TV
      obtain ⟨a0, a1, a2, a3⟩ := Blk.four (S := a) A6.out
      have hs6 := W6.out.size
      have OWA := Lib.hid (own_one x3 w.heap.size hs6 a)
      have VA := Lib.hid ((HV.out.below W6.out).below (below_alloc (Below.refl _ _) (.cells #[.int .u64 (a 0), .int .u64 (a 1), .int .u64 (a 2), .int .u64 (a 3)] 35)))
      have W6' := Lib.hid (below_alloc W6.out (.cells #[.int .u64 (a 0), .int .u64 (a 1), .int .u64 (a 2), .int .u64 (a 3)] 35))
      have P6' := Lib.hid (P6.out.below (below_alloc (Below.refl _ _) (.cells #[.int .u64 (a 0), .int .u64 (a 1), .int .u64 (a 2), .int .u64 (a 3)] 35)))
      have Q6' := Lib.hid (Q6.out.below (below_alloc (Below.refl _ _) (.cells #[.int .u64 (a 0), .int .u64 (a 1), .int .u64 (a 2), .int .u64 (a 3)] 35)))
      go_wp2_with (at_builtin; refine wpList_copy rfl _ _ rfl w.heap.size [a] l _ _ rfl OWA.out rfl VA.out HN.out (by simp; omega) (by rw [World.size_alloc]; omega) ?_)
      intro v7 w7 ho7 hg7
      have S7 := Lib.hid (own_sets ho7)
      have G7 := Below.grown (Below.refl x3.heap.size (x3.alloc (.cells #[.int .u64 (a 0), .int .u64 (a 1), .int .u64 (a 2), .int .u64 (a 3)] 35))) hg7 (by rw [World.size_alloc]; omega) (fun g h => by cases h; exact Nat.le_refl _)
      have W7 := Lib.hid (below_step W6.out ((below_alloc (Below.refl x3.heap.size x3) (.cells #[.int .u64 (a 0), .int .u64 (a 1), .int .u64 (a 2), .int .u64 (a 3)] 35)).trans G7))
      have P7 := Lib.hid (P6.out.below ((below_alloc (Below.refl x3.heap.size x3) (.cells #[.int .u64 (a 0), .int .u64 (a 1), .int .u64 (a 2), .int .u64 (a 3)] 35)).trans G7))
      have Q7 := Lib.hid (Q6.out.below ((below_alloc (Below.refl x3.heap.size x3) (.cells #[.int .u64 (a 0), .int .u64 (a 1), .int .u64 (a 2), .int .u64 (a 3)] 35)).trans G7))
      clear ho7 hg7 G7 OWA VA W6' P6' Q6' W6 P6 Q6 A6 a0 a1 a2 a3
      go_wp2_with fail
      refine (CT.out _ _ S7.out).mono ?_; rintro e w8 ⟨tp, rfl, _, hp8, k8⟩
      have W8 := Lib.hid (below_step W7.out k8)
      have P8 := Lib.hid (P7.out.below k8)
      have Q8 := Lib.hid (Q7.out.below k8)
      have T8 := Lib.hid hp8
      clear k8 hp8 W7 P7 Q7 S7
      go_wp2_with fail
      refine (LQ.out _ _ Q8.out).mono ?_; rintro e w9 ⟨rfl, k9⟩
      have W9 := Lib.hid (below_step W8.out k9)
      have P9 := Lib.hid (P8.out.below k9)
      have Q9 := Lib.hid (Q8.out.below k9)
      have T9 := Lib.hid (T8.out.below k9)
      clear k9 W8 P8 Q8 T8
      go_wp2_with fail
      refine (LP.out _ _ P9.out).mono ?_; rintro e z1 ⟨rfl, k1⟩
      have W1 := Lib.hid (below_step W9.out k1)
      have P1 := Lib.hid (P9.out.below k1)
      have Q1 := Lib.hid (Q9.out.below k1)
      have T1 := Lib.hid (T9.out.below k1)
      clear k1 W9 P9 Q9 T9
      go_wp2_with fail
      refine (RQ.out _ _ Q1.out).mono ?_; rintro e z2 ⟨rfl, k2⟩
      have W2 := Lib.hid (below_step W1.out k2)
      have P2 := Lib.hid (P1.out.below k2)
      have Q2 := Lib.hid (Q1.out.below k2)
      have T2 := Lib.hid (T1.out.below k2)
      clear k2 W1 P1 Q1 T1
      go_wp2_with fail
      refine (RT.out _ _ T2.out).mono ?_; rintro e z3 ⟨rfl, k3⟩
      have W3 := Lib.hid (below_step W2.out k3)
      have P3 := Lib.hid (P2.out.below k3)
      have Q3 := Lib.hid (Q2.out.below k3)
      clear k3 W2 P2 Q2 T2
      go_wp2_with fail
      refine (LQ.out _ _ Q3.out).mono ?_; rintro e z4 ⟨rfl, k4⟩
      have W4 := Lib.hid (below_step W3.out k4)
      have P4 := Lib.hid (P3.out.below k4)
      have Q4 := Lib.hid (Q3.out.below k4)
      clear k4 W3 P3 Q3
      go_wp2_with fail
      go_loopw [50] (fun j wx => ∃ c : Nat, c ≤ m ∧ j = .int .i64 c ∧ PtOf wx p l ∧ PtOf wx q M ∧ Below w.heap.size w wx) (fun j _ => m - (intOf j).toNat)
      case atStart => exact ⟨0, by omega, rfl, P4.out, Q4.out, W4.out⟩
      case round =>
        clear W4 P4 Q4
        obtain ⟨c, hc, rfl, hp, hq, hw⟩ := hrel
        by_cases hlc : c < m
        · have t5 : decide (c < m) = true := by simp; omega
          obtain ⟨hb1, _, _⟩ := LBF.out c hlc
          have SC := Lib.hid (fun w1 ht h => SQ.out q c w1 ht h)
          rw [SIN.out c hlc] at SC
          have KC := Lib.hid (fun w1 h => KP.out p (lb M c) hb1 w1 h)
          have OC := Lib.hid (fun w1 h => OP.out p (cl l (lb M c)) w1 h)
          have OD := Lib.hid (fun w1 h => OQ.out q c w1 h)
          have AD := Lib.hid (fun w1 => AC.out c hlc w1)
          have HP := Lib.hid hp
          have HQ := Lib.hid hq
          have HW := Lib.hid hw
          clear hp hq hw
          unfold setV at OC OD AD
          have hb2 := CLL.out (lb M c) hb1
          have h7 : IntKind.i64.wrap ((cl l (lb M c) : Nat) : Int) = (cl l (lb M c) : Nat) := IntWalk.i64_in _ (by omega)
          generalize clSet l (cl l (lb M c) : Nat) = SP at *
          generalize clSet M (c : Nat) = SM at *
          generalize cl l (lb M c) = d at *
          generalize lb M c = x at *
          go_wp2_with fail
          refine (SC.out _ (TabAt.below HT.out HW.out) HQ.out).mono ?_; rintro e y6 ⟨rfl, k6⟩
          have HW6 := Lib.hid (below_step HW.out k6)
          have HP6 := Lib.hid (HP.out.below k6)
          have HQ6 := Lib.hid (HQ.out.below k6)
          clear k6 HW HP HQ
          go_wp2_with fail
          refine (KC.out _ HP6.out).mono ?_; rintro e y7 ⟨rfl, k7⟩
          have HW7 := Lib.hid (below_step HW6.out k7)
          have HP7 := Lib.hid (HP6.out.below k7)
          have HQ7 := Lib.hid (HQ6.out.below k7)
          clear k7 HW6 HP6 HQ6
          go_wp2_with fail
          refine (OC.out _ HP7.out).mono ?_; rintro e y8 ⟨rfl, k8⟩
          have HW8 := Lib.hid (below_alloc (below_step HW7.out k8) (.cells (setCs SP) 35))
          have HP8 := Lib.hid ((HP7.out.below k8).below (below_alloc (Below.refl _ _) (.cells (setCs SP) 35)))
          have HQ8 := Lib.hid ((HQ7.out.below k8).below (below_alloc (Below.refl _ _) (.cells (setCs SP) 35)))
          have BX := Lib.hid (Blk.made y8 35 (setCs SP))
          clear k8 HW7 HP7 HQ7
          unfold setCs at HW8 HP8 HQ8 BX
          go_upto_region 13 with fail
          generalize y8.heap.size = g8 at *
          generalize y8.alloc _ = wz at *
          have d0 : ∀ x : Ext wz, x.v.cell? ⟨g8, 0, none⟩ = some (.int .u64 (SP 0)) := fun x => BX.out.ext x 0
          have d1 : ∀ x : Ext wz, x.v.cell? ⟨g8, 1, none⟩ = some (.int .u64 (SP 1)) := fun x => BX.out.ext x 1
          have d2 : ∀ x : Ext wz, x.v.cell? ⟨g8, 2, none⟩ = some (.int .u64 (SP 2)) := fun x => BX.out.ext x 2
          have d3 : ∀ x : Ext wz, x.v.cell? ⟨g8, 3, none⟩ = some (.int .u64 (SP 3)) := fun x => BX.out.ext x 3
          refine wp_region_ext (by kernel_rfl) (by kernel_rfl) ?_
          repeat (go_big_quiet_step (first | (go_at_call 14; exact Calls.ext_of (OD.out _ (PtOf.ext HQ8.out _))) | (go_at_call 21; exact Calls.ext_of (AD.out _))))
          refine wpQuiet_nil ?_
          intro _ hw'
          obtain ⟨xq, hw''⟩ := hw'
          subst hw''
          have HWy := Lib.hid (below_step HW8.out xq.h)
          have HPy := Lib.hid (HP8.out.below xq.h)
          have HQy := Lib.hid (HQ8.out.below xq.h)
          clear HW8 HP8 HQ8 BX d0 d1 d2 d3
          generalize xq.v = wy at *
          go_wp2_with fail
          go_roundw
          case rel => exact ⟨c + 1, by omega, by go_num, HPy.out, HQy.out, HWy.out⟩
          case measure => go_light; simp [intOf]; omega
        · have t5 : decide (c < m) = false := by simp; omega
          go_wp2_with fail
          go_returns
          exact ⟨rfl, hw⟩
  · go_simp
    refine hK.out _ _ (Blk.four (S := a) (B0A)) (fun hHeld => ?_)
    clear hK K'
    refine wpAnyH_ready (rs := [0]) (by kernel_rfl) (by simp) (AllReadyH.cons rfl (fun K' hK => ?_) AllReadyH.nil)
    go_simp
    refine hK.out _ _ (Blk.four (S := a) (B0A.alloc (.cells #[] 35))) (fun hHeld => ?_)
    clear hK K'
    refine wpAnyH_ready (rs := [2]) (by kernel_rfl) (by simp) (AllReadyH.cons rfl (fun K' hK => ?_) AllReadyH.nil)
    rw [if_pos (by rfl)]
    have OW := (show ((w3.drew.alloc (.cells #[.int .u64 (a 0), .int .u64 (a 1), .int .u64 (a 2), .int .u64 (a 3)] 35)).alloc (.cells #[] 35)).ownsRow w3.heap.size 35 4 (.slice (some ⟨w3.heap.size + 1, 0, none⟩) 0 0) ([] : List (Nat → Nat)).length (setCsL []) from by have h := own_none (w3.drew.alloc (.cells #[.int .u64 (a 0), .int .u64 (a 1), .int .u64 (a 2), .int .u64 (a 3)] 35)) w3.heap.size (by rw [World.size_alloc]; show w3.heap.size ≤ w3.heap.size + 1; omega); rw [World.size_alloc] at h; exact h)
    have SV := TV.out.below (below_alloc D0A (.cells #[] 35))
    have hd0 := (below_alloc D0A (.cells #[] 35)).size
    refine wp_copy _ _ rfl w3.heap.size [] l _ _ rfl OW rfl SV HN.out (by simp; omega) hd0 ?_
    intro v9 y1 ho1 hgr1
    have D3 := Below.grown (below_alloc D0A (.cells #[] 35)) hgr1 hd0 (fun g h => (OW.lt g h).1)
    have B3 := Blk.grown (B0A.alloc (.cells #[] 35)) hgr1 (fun e => by have h8 := (OW.lt _ e.symm).1; omega)
    have hd3 := D3.size
    have SA0 : SetsR ((w3.drew.alloc (.cells #[.int .u64 (a 0), .int .u64 (a 1), .int .u64 (a 2), .int .u64 (a 3)] 35)).alloc (.cells #[] 35)) (.slice (some ⟨w3.heap.size, 0, none⟩) 1 1) [a] := (sets_lit w3.drew [a] (by simp)).below (below_alloc (Below.refl _ _) (.cells #[] 35))
    have SA := SetsR.grownOne SA0 hgr1 (fun e => by have h8 : w3.heap.size = w3.heap.size + 1 := (by injection e); omega)
    refine hK.out _ _ (Blk.four (S := a) B3) (fun hHeld => ?_)
    clear hK K'
    refine wpAnyH_ready (rs := [5]) (by kernel_rfl) (by simp) (AllReadyH.cons rfl (fun K' hK => ?_) AllReadyH.nil)
    rw [if_pos (by rfl)]
    have hd4 := (D3).size
    refine wp_copy _ _ rfl w3.heap.size ([] ++ l) [a] _ _ rfl ho1 rfl SA (.inr ⟨_, _, _, rfl⟩) (by simp; omega) hd4 ?_
    intro v10 y2 ho2 hgr2
    have D5 := Below.grown (D3) hgr2 hd4 (fun g h => (ho1.lt g h).1)
    have B5 := Blk.grown (B3) hgr2 (fun e => by have h8 := (ho1.lt _ e.symm).1; omega)
    rw [HM.out] at ho2
    refine hK.out _ _ (Blk.four (S := a) B5) (fun hHeld => ?_)
    clear hK K'
    refine wpAnyH_ready (rs := [6]) (by kernel_rfl) (by simp) (AllReadyH.cons rfl (fun K' hK => ?_) AllReadyH.nil)
    go_simp
    go_wp2_with (go_at_call 9; refine (CQ.out _ _ (own_sets ho2)).mono ?_; rintro e x3 ⟨q, rfl, _, hq3, k3⟩; have B6 := B5.below k3; have D6 := below_step D5 k3)
    refine hK.out _ _ (Blk.four (S := a) B6) (fun hHeld => ?_)
    clear hK K'
    refine wpAnyH_ready (rs := [7]) (by kernel_rfl) (by simp) (AllReadyH.cons rfl (fun K' hK => ?_) AllReadyH.nil)
    go_simp
    refine hK.out _ _ hHeld (fun hHeld => ?_)
    clear hK K'
    refine wpAnyH_done (by kernel_rfl) ?_ _
    have W6 := Lib.hid (below_step W3.out D6)
    have P6 := Lib.hid (P3.out.below D6)
    have Q6 := Lib.hid hq3
    have A6 := Lib.hid B6
    clear D3 D5 D6 B3 B5 B6 ho1 ho2 hgr1 hgr2 hq3 k3 SA B00 B0A D0N D0A DW SV OW hd0 hd3 hd4 hHeld hA3 B0 A3 W3 P3 TV
    obtain ⟨a0, a1, a2, a3⟩ := Blk.four (S := a) A6.out
    have hs6 := W6.out.size
    have OWA := Lib.hid (own_one x3 w.heap.size hs6 a)
    have VA := Lib.hid ((HV.out.below W6.out).below (below_alloc (Below.refl _ _) (.cells #[.int .u64 (a 0), .int .u64 (a 1), .int .u64 (a 2), .int .u64 (a 3)] 35)))
    have W6' := Lib.hid (below_alloc W6.out (.cells #[.int .u64 (a 0), .int .u64 (a 1), .int .u64 (a 2), .int .u64 (a 3)] 35))
    have P6' := Lib.hid (P6.out.below (below_alloc (Below.refl _ _) (.cells #[.int .u64 (a 0), .int .u64 (a 1), .int .u64 (a 2), .int .u64 (a 3)] 35)))
    have Q6' := Lib.hid (Q6.out.below (below_alloc (Below.refl _ _) (.cells #[.int .u64 (a 0), .int .u64 (a 1), .int .u64 (a 2), .int .u64 (a 3)] 35)))
    go_wp2_with (at_builtin; refine wpList_copy rfl _ _ rfl w.heap.size [a] l _ _ rfl OWA.out rfl VA.out HN.out (by simp; omega) (by rw [World.size_alloc]; omega) ?_)
    intro v7 w7 ho7 hg7
    have S7 := Lib.hid (own_sets ho7)
    have G7 := Below.grown (Below.refl x3.heap.size (x3.alloc (.cells #[.int .u64 (a 0), .int .u64 (a 1), .int .u64 (a 2), .int .u64 (a 3)] 35))) hg7 (by rw [World.size_alloc]; omega) (fun g h => by cases h; exact Nat.le_refl _)
    have W7 := Lib.hid (below_step W6.out ((below_alloc (Below.refl x3.heap.size x3) (.cells #[.int .u64 (a 0), .int .u64 (a 1), .int .u64 (a 2), .int .u64 (a 3)] 35)).trans G7))
    have P7 := Lib.hid (P6.out.below ((below_alloc (Below.refl x3.heap.size x3) (.cells #[.int .u64 (a 0), .int .u64 (a 1), .int .u64 (a 2), .int .u64 (a 3)] 35)).trans G7))
    have Q7 := Lib.hid (Q6.out.below ((below_alloc (Below.refl x3.heap.size x3) (.cells #[.int .u64 (a 0), .int .u64 (a 1), .int .u64 (a 2), .int .u64 (a 3)] 35)).trans G7))
    clear ho7 hg7 G7 OWA VA W6' P6' Q6' W6 P6 Q6 A6 a0 a1 a2 a3
    go_wp2_with fail
    refine (CT.out _ _ S7.out).mono ?_; rintro e w8 ⟨tp, rfl, _, hp8, k8⟩
    have W8 := Lib.hid (below_step W7.out k8)
    have P8 := Lib.hid (P7.out.below k8)
    have Q8 := Lib.hid (Q7.out.below k8)
    have T8 := Lib.hid hp8
    clear k8 hp8 W7 P7 Q7 S7
    go_wp2_with fail
    refine (LQ.out _ _ Q8.out).mono ?_; rintro e w9 ⟨rfl, k9⟩
    have W9 := Lib.hid (below_step W8.out k9)
    have P9 := Lib.hid (P8.out.below k9)
    have Q9 := Lib.hid (Q8.out.below k9)
    have T9 := Lib.hid (T8.out.below k9)
    clear k9 W8 P8 Q8 T8
    go_wp2_with fail
    refine (LP.out _ _ P9.out).mono ?_; rintro e z1 ⟨rfl, k1⟩
    have W1 := Lib.hid (below_step W9.out k1)
    have P1 := Lib.hid (P9.out.below k1)
    have Q1 := Lib.hid (Q9.out.below k1)
    have T1 := Lib.hid (T9.out.below k1)
    clear k1 W9 P9 Q9 T9
    go_wp2_with fail
    refine (RQ.out _ _ Q1.out).mono ?_; rintro e z2 ⟨rfl, k2⟩
    have W2 := Lib.hid (below_step W1.out k2)
    have P2 := Lib.hid (P1.out.below k2)
    have Q2 := Lib.hid (Q1.out.below k2)
    have T2 := Lib.hid (T1.out.below k2)
    clear k2 W1 P1 Q1 T1
    go_wp2_with fail
    refine (RT.out _ _ T2.out).mono ?_; rintro e z3 ⟨rfl, k3⟩
    have W3 := Lib.hid (below_step W2.out k3)
    have P3 := Lib.hid (P2.out.below k3)
    have Q3 := Lib.hid (Q2.out.below k3)
    clear k3 W2 P2 Q2 T2
    go_wp2_with fail
    refine (LQ.out _ _ Q3.out).mono ?_; rintro e z4 ⟨rfl, k4⟩
    have W4 := Lib.hid (below_step W3.out k4)
    have P4 := Lib.hid (P3.out.below k4)
    have Q4 := Lib.hid (Q3.out.below k4)
    clear k4 W3 P3 Q3
    go_wp2_with fail
    go_loopw [50] (fun j wx => ∃ c : Nat, c ≤ m ∧ j = .int .i64 c ∧ PtOf wx p l ∧ PtOf wx q M ∧ Below w.heap.size w wx) (fun j _ => m - (intOf j).toNat)
    case atStart => exact ⟨0, by omega, rfl, P4.out, Q4.out, W4.out⟩
    case round =>
      clear W4 P4 Q4
      obtain ⟨c, hc, rfl, hp, hq, hw⟩ := hrel
      by_cases hlc : c < m
      · have t5 : decide (c < m) = true := by simp; omega
        obtain ⟨hb1, _, _⟩ := LBF.out c hlc
        have SC := Lib.hid (fun w1 ht h => SQ.out q c w1 ht h)
        rw [SIN.out c hlc] at SC
        have KC := Lib.hid (fun w1 h => KP.out p (lb M c) hb1 w1 h)
        have OC := Lib.hid (fun w1 h => OP.out p (cl l (lb M c)) w1 h)
        have OD := Lib.hid (fun w1 h => OQ.out q c w1 h)
        have AD := Lib.hid (fun w1 => AC.out c hlc w1)
        have HP := Lib.hid hp
        have HQ := Lib.hid hq
        have HW := Lib.hid hw
        clear hp hq hw
        unfold setV at OC OD AD
        have hb2 := CLL.out (lb M c) hb1
        have h7 : IntKind.i64.wrap ((cl l (lb M c) : Nat) : Int) = (cl l (lb M c) : Nat) := IntWalk.i64_in _ (by omega)
        generalize clSet l (cl l (lb M c) : Nat) = SP at *
        generalize clSet M (c : Nat) = SM at *
        generalize cl l (lb M c) = d at *
        generalize lb M c = x at *
        go_wp2_with fail
        refine (SC.out _ (TabAt.below HT.out HW.out) HQ.out).mono ?_; rintro e y6 ⟨rfl, k6⟩
        have HW6 := Lib.hid (below_step HW.out k6)
        have HP6 := Lib.hid (HP.out.below k6)
        have HQ6 := Lib.hid (HQ.out.below k6)
        clear k6 HW HP HQ
        go_wp2_with fail
        refine (KC.out _ HP6.out).mono ?_; rintro e y7 ⟨rfl, k7⟩
        have HW7 := Lib.hid (below_step HW6.out k7)
        have HP7 := Lib.hid (HP6.out.below k7)
        have HQ7 := Lib.hid (HQ6.out.below k7)
        clear k7 HW6 HP6 HQ6
        go_wp2_with fail
        refine (OC.out _ HP7.out).mono ?_; rintro e y8 ⟨rfl, k8⟩
        have HW8 := Lib.hid (below_alloc (below_step HW7.out k8) (.cells (setCs SP) 35))
        have HP8 := Lib.hid ((HP7.out.below k8).below (below_alloc (Below.refl _ _) (.cells (setCs SP) 35)))
        have HQ8 := Lib.hid ((HQ7.out.below k8).below (below_alloc (Below.refl _ _) (.cells (setCs SP) 35)))
        have BX := Lib.hid (Blk.made y8 35 (setCs SP))
        clear k8 HW7 HP7 HQ7
        unfold setCs at HW8 HP8 HQ8 BX
        go_upto_region 13 with fail
        generalize y8.heap.size = g8 at *
        generalize y8.alloc _ = wz at *
        have d0 : ∀ x : Ext wz, x.v.cell? ⟨g8, 0, none⟩ = some (.int .u64 (SP 0)) := fun x => BX.out.ext x 0
        have d1 : ∀ x : Ext wz, x.v.cell? ⟨g8, 1, none⟩ = some (.int .u64 (SP 1)) := fun x => BX.out.ext x 1
        have d2 : ∀ x : Ext wz, x.v.cell? ⟨g8, 2, none⟩ = some (.int .u64 (SP 2)) := fun x => BX.out.ext x 2
        have d3 : ∀ x : Ext wz, x.v.cell? ⟨g8, 3, none⟩ = some (.int .u64 (SP 3)) := fun x => BX.out.ext x 3
        refine wp_region_ext (by kernel_rfl) (by kernel_rfl) ?_
        repeat (go_big_quiet_step (first | (go_at_call 14; exact Calls.ext_of (OD.out _ (PtOf.ext HQ8.out _))) | (go_at_call 21; exact Calls.ext_of (AD.out _))))
        refine wpQuiet_nil ?_
        intro _ hw'
        obtain ⟨xq, hw''⟩ := hw'
        subst hw''
        have HWy := Lib.hid (below_step HW8.out xq.h)
        have HPy := Lib.hid (HP8.out.below xq.h)
        have HQy := Lib.hid (HQ8.out.below xq.h)
        clear HW8 HP8 HQ8 BX d0 d1 d2 d3
        generalize xq.v = wy at *
        go_wp2_with fail
        go_roundw
        case rel => exact ⟨c + 1, by omega, by go_num, HPy.out, HQy.out, HWy.out⟩
        case measure => go_light; simp [intOf]; omega
      · have t5 : decide (c < m) = false := by simp; omega
        go_wp2_with fail
        go_returns
        exact ⟨rfl, hw⟩
theorem more_c (l : List (Nat → Nat)) (ho : ∀ S ∈ l, okS S) (a : Nat → Nat) (ha : okS a) (v : Value) (w : World) (hv : SetsR w v l) (hN : Nil0 v) (hT : TabAt 0 Lib.deBruijn64tab w) : Calls Tryd.prog 5 #[v, setV a] w fun e w' => e = .returned (.bool true) ∧ Below w.heap.size w w' := by
  by_cases hl : l.length ≤ 20
  · exact more_few l ho a ha hl v w hv hN hT
  · exact more_big l a (by omega) v w hv hT
end Go.Proofs.YtonicgbejmghkaaDoor
