/- The reference's Reached and Trim. -/
import Derived.Test.YtafcnehinanecaaLvNumb
import Derived.Test.YtafcnehinanecaaSparse5
import Derived.Deep.RegionHeld
namespace Go.Proofs.Ytafcnehinanecaa
open Go.RowKit
theorem yields_tab {ops : Array Oper} {S : World → Prop} {op : Oper} {a : Act} (hw : Region.wanted op (yielded ops a.tmps) = true) (x : Operand) (ho : op.op = .load 26 x)
    (b : Nat) (hx : a.eval x = .pointer (some ⟨b, 0, none⟩)) (tv : Array Value) (hS : ∀ w, S w → w.rangeAt b 0 tv.toList) (hi : (Try.prog.info? 26).map (·.size) = some tv.toList.length) : YieldsIf Try.prog ops S op (.agg tv) a := by
  have := yieldsIf_load_mid (P := Try.prog) hw 26 x ho b 0 hx tv.toList _ hS Try.underlying26 rfl hi
  rwa [Array.toArray_toList] at this
theorem nats_toNat {l : List Int} (h : ∀ x ∈ l, 0 ≤ x) : nats (l.map Int.toNat) = l := by
  unfold nats
  rw [List.map_map]
  refine (List.map_congr_left fun x hx => ?_).trans (List.map_id l)
  exact Int.toNat_of_nonneg (h x hx)
theorem toNat_nodup {l : List Int} (hd : l.Nodup) (h : ∀ x ∈ l, 0 ≤ x) : (l.map Int.toNat).Nodup := by
  rw [List.nodup_iff_pairwise_ne, List.pairwise_map]
  refine (List.Pairwise.and_mem.1 hd).imp fun {a b} hab => ?_
  have := h a hab.1; have := h b hab.2.1; have := hab.2.2; omega
attribute [local irreducible] Calls
set_option maxHeartbeats 8000000 in
set_option maxRecDepth 100000 in
theorem rreached_c (tv : Array Value) (T : Tb) (p : RightP T) (w : World) (h : TbR w tv T) : Calls Try.prog 17 #[.agg tv] w fun e w' => ∃ v, e = .returned v ∧ Own w' w.heap.size v (sortI (order T allM)) ∧ Below w.heap.size w w' := by
  have K0 := below_alloc (Below.refl w.heap.size w) (.cells tv 26)
  have W0 := Lib.hid K0
  have HT := Lib.hid h.boxed
  have HR := Lib.hid (h.below K0)
  have RG := Lib.hid (Blk.made w 26 tv)
  have SL := Lib.hid (show (Try.prog.info? 26).map (·.size) = some tv.toList.length from by rw [Array.length_toList, h.size]; exact info_tab)
  have hn3 : T.next.length ≤ 300 := p.n3
  have hol := order_len p allM
  have ON := Lib.hid (nats_toNat (l := order T allM) fun x hx => (order_in p hx).1)
  have RO := Lib.hid (fun w1 (h1 : TbR w1 tv T) => rorder_c tv T p [] (.slice none 0 0) (by simp) false allM (fun k => rfl) w1 h1 (IntsAt.zero _ _ _ _ (fun _ => rfl)))
  have RS := Lib.hid (fun (b : Nat) v w1 (h1 : IntsAt w1 b v (nats ((order T allM).map Int.toNat))) => rsort_c ((order T allM).map Int.toNat) (by rw [List.length_map]; omega) T.next.length (by omega) b v w1 h1)
  have SS := Lib.hid (show sortI (order T allM) = nats (srt ((order T allM).map Int.toNat) T.next.length) from by
    have := sort_srt ((order T allM).map Int.toNat) (toNat_nodup (order_nodup p _) fun x hx => (order_in p hx).1) T.next.length (fun x hx => by
      obtain ⟨y, hy, rfl⟩ := List.mem_map.1 hx
      have := order_in p hy; omega)
    rwa [ON.out] at this)
  have hsz : w.heap.size < (w.alloc (.cells tv 26)).heap.size := by rw [World.size_alloc]; omega
  obtain ⟨c0, c1, cr, an, cn, at_, ct, c3, c4, hra, hta⟩ := HT.out.cells
  have C3 := Lib.hid c3
  clear h K0 c0 c1 cr c3 c4 hra hta hol
  go_enter Try.func17, Try.ntmps17
  go_upto_region 1 with fail
  generalize w.alloc (.cells tv 26) = wb at *
  have HS := Lib.hid (show ∀ w', Below wb.heap.size wb w' → w'.rangeAt w.heap.size 0 tv.toList ∧ w'.cell? ⟨w.heap.size, 258, none⟩ = some (.slice an T.next.length cn) ∧ Below wb.heap.size wb w' from fun w' k => ⟨Blk.range (RG.out.below k), (k.cell (p := ⟨w.heap.size, _, none⟩) hsz).trans C3.out, k⟩)
  have DW := Lib.hid (show Below wb.heap.size wb wb.drew from below_dr (Below.refl _ _))
  refine wp_region_held_drew (S := fun w' => w'.rangeAt w.heap.size 0 tv.toList ∧ w'.cell? ⟨w.heap.size, 258, none⟩ = some (.slice an T.next.length cn) ∧ Below wb.heap.size wb w') (by kernel_rfl) (HS.out _ DW.out) (fun hHeld => ?_)
  refine' wpAnyH_take (i := 0) (v := _) rfl (by kernel_rfl) (by kernel_rfl) (by kernel_rfl) (fun _ _ _ h => h) (yields_tab (by rfl) _ rfl w.heap.size rfl tv (fun _ h1 => h1.1) SL.out) (by assumption) ?r0
  try simp only [Act.put]
  refine' wpAnyH_take (i := 2) (v := _) rfl (by kernel_rfl) (by kernel_rfl) (by kernel_rfl) (fun _ _ _ h => h) (Or.inl ⟨by rfl, ?hy2⟩) (by assumption) ?r2
  case hy2 => (intro w hSw; (try dsimp only at hSw); go_simp; with_reducible rfl)
  try simp only [Act.put]
  refine' wpAnyH_take (i := 3) (v := _) rfl (by kernel_rfl) (by kernel_rfl) (by kernel_rfl) (fun _ _ _ h => h) (Or.inl ⟨by rfl, ?hy3⟩) (by assumption) ?r3
  case hy3 => (intro w hSw; (try dsimp only at hSw); go_simp; with_reducible rfl)
  try simp only [Act.put]
  refine' wpAnyH_take (i := 4) (v := _) rfl (by kernel_rfl) (by kernel_rfl) (by kernel_rfl) (fun _ _ _ h => h) (Or.inl ⟨by rfl, ?hy4⟩) (by assumption) ?r4
  case hy4 => (intro w hSw; (try dsimp only at hSw); go_simp; with_reducible rfl)
  try simp only [Act.put]
  refine wpAnyH_ready (rs := [1]) (by kernel_rfl) (by simp) (AllReadyH.cons rfl (fun K' hK => ?_) AllReadyH.nil)
  go_simp
  go_wp2_with (go_at_call 19; refine (RO.out _ (HR.out.below hHeld.2.2)).mono ?_; rintro e x3 ⟨⟨v1, rfl, ho⟩, k3⟩)
  have HO := Lib.hid ho
  have W3 := Lib.hid (below_step hHeld.2.2 k3)
  clear ho k3
  refine hK.out _ _ (HS.out _ W3.out) (fun hHeld => ?_)
  clear hK K'
  refine wpAnyH_ready (rs := [5]) (by kernel_rfl) (by simp) (AllReadyH.cons rfl (fun K' hK => ?_) AllReadyH.nil)
  have RX := Lib.hid (RS.out 0 v1 x3 (by rw [ON.out]; exact (IntsAt.own HO.out).mono (Nat.zero_le _)))
  go_simp
  go_wp2_with (go_at_call 32; refine RX.out.mono ?_; rintro e x4 ⟨v2, rfl, ho, k4⟩)
  have HO4 := Lib.hid ho
  have W4 := Lib.hid (below_step W3.out k4)
  clear ho k4
  refine hK.out _ _ (HS.out _ W4.out) (fun hHeld => ?_)
  clear hK K'
  refine wpAnyH_ready (rs := [6]) (by kernel_rfl) (by simp) (AllReadyH.cons rfl (fun K' hK => ?_) AllReadyH.nil)
  go_simp
  refine hK.out _ _ (HS.out _ W4.out) (fun hHeld => ?_)
  clear hK K' hHeld
  refine wpAnyH_done (by kernel_rfl) ?_ _
  go_wp2_with fail
  go_ret
  exact ⟨v2, rfl, by rw [SS.out]; exact own_mono HO4.out (Nat.le_trans W0.out.size W3.out.size), below_step W0.out W4.out⟩
theorem useful_may {T : Tb} {k : Int} : liveM T k = (liveL T).getD k.toNat false := by
  by_cases h : k.toNat < T.next.length
  · rw [liveL_at h]; rfl
  · rw [List.getD_eq_getElem?_getD, List.getElem?_eq_none (by rw [liveL_len]; omega)]
    cases e : liveM T k with
    | false => rfl
    | true =>
      have := (liveM_iff T k).1 e
      cases this with
      | acc i hi _ => omega
      | step i k hi _ _ => omega
/-- What is met over those of a list alone, or over those of a predicate that is the list's on the states. -/
theorem metN_congr {T : Tb} (p : RightP T) {may may' : Int → Bool} (h : ∀ k : Int, 0 ≤ k → k < T.next.length → may k = may' k) : ∀ j, metN T may j = metN T may' j := by
  have ha : ∀ out k, k < (T.next.length : Int) → addIf may out k = addIf may' out k := fun out k hk => by
    by_cases h0 : 0 ≤ k
    · unfold addIf; rw [h k h0 hk]
    · rw [addIf_low h0, addIf_low h0]
  have hr : ∀ row out, (∀ k ∈ row, k < (T.next.length : Int)) → addRow may out row = addRow may' out row := fun row => by
    induction row with
    | nil => intro _ _; rfl
    | cons k row ih =>
      intro out hk
      show addRow may (addIf may out k) row = addRow may' (addIf may' out k) row
      rw [ha out k (hk k (by simp)), ih _ fun x hx => hk x (by simp [hx])]
  intro j
  induction j with
  | zero =>
    rw [metN, metN]
    by_cases h0 : 0 ≤ T.start
    · rw [h T.start h0 p.s2]
    · rw [decide_eq_false h0]; rfl
  | succ j ih =>
    rw [metN, metN]
    simp only [ih]
    split
    · rename_i hj
      obtain ⟨a, b, _⟩ := (p.meets may' j).2 _ (List.getElem_mem hj)
      exact hr _ _ fun k hk => (p.rowGoes a b hk).2
    · rfl
theorem order_congr {T : Tb} (p : RightP T) {may may' : Int → Bool} (h : ∀ k : Int, 0 ≤ k → k < T.next.length → may k = may' k) : order T may = order T may' := metN_congr p h _
set_option maxHeartbeats 8000000 in
set_option maxRecDepth 100000 in
theorem rtrim_c (tv : Array Value) (T : Tb) (p : RightP T) (w : World) (h : TbR w tv T) : Calls Try.prog 15 #[.agg tv] w fun e w' => ∃ tu, e = .returned (.agg tu) ∧ TbR w' tu (trimT T) ∧ Below w.heap.size w w' := by
  have Z := (zero_of_info z0_info).1
  have K0 := below_alloc (below_alloc (Below.refl w.heap.size w) (.cells tv 26)) (.cells Z0v 26)
  have W0 := Lib.hid K0
  have HR := Lib.hid (h.below K0)
  have R0 := Lib.hid (show Blk ((w.alloc (.cells tv 26)).alloc (.cells Z0v 26)) (w.heap.size + 1) 26 Z0v from by
    have := Blk.made (w.alloc (.cells tv 26)) 26 Z0v
    rwa [World.size_alloc] at this)
  have RG := Lib.hid ((Blk.made w 26 tv).alloc (.cells Z0v 26))
  have SL := Lib.hid (show (Try.prog.info? 26).map (·.size) = some tv.toList.length from by rw [Array.length_toList, h.size]; exact info_tab)
  have hn3 : T.next.length ≤ 300 := p.n3
  have hul : (usefulL T).length ≤ 1000000 := by
    unfold usefulL
    rw [List.length_map]
    have := List.length_filter_le (liveB T) (List.range T.next.length)
    rw [List.length_range] at this; omega
  have OE := Lib.hid (show order T (fun k => !true || (usefulL T).any (· == k)) = order T (liveM T) from order_congr p fun k h0 h1 => by rw [usefulL_any h0 h1]; rfl)
  have hol := order_len p (liveM T)
  have RU := Lib.hid (fun w1 (h1 : TbR w1 tv T) => ruseful_c tv T p w1 h1)
  have RO := Lib.hid (fun v w1 (h1 : TbR w1 tv T) (hv : IntsAt w1 0 v (usefulL T)) => rorder_c tv T p (usefulL T) v hul true (fun k => !true || (usefulL T).any (· == k)) (fun k => rfl) w1 h1 hv)
  have RN := Lib.hid (fun v w1 (h1 : TbR w1 tv T) (hv : IntsAt w1 0 v (order T (liveM T))) => rnumber_c tv T p (order T (liveM T)) (by omega) (fun x hx => ⟨(order_in p hx).1, (order_in p hx).2.1⟩) v w1 h1 hv)
  have TE := Lib.hid (trimT_eq T)
  have hsz : w.heap.size + 1 < ((w.alloc (.cells tv 26)).alloc (.cells Z0v 26)).heap.size := by rw [World.size_alloc, World.size_alloc]; omega
  clear h K0 hul hol
  go_enter Try.func15, Try.ntmps15
  go_upto_region 1 with fail
  generalize (w.alloc (.cells tv 26)).alloc (.cells Z0v 26) = wb at *
  have HS := Lib.hid (show ∀ w', Below (w.heap.size + 1) wb w' → w'.rangeAt w.heap.size 0 tv.toList ∧ Below (w.heap.size + 1) wb w' from fun w' k => ⟨Blk.range ((k.block w.heap.size (Nat.lt_succ_self _)).trans RG.out), k⟩)
  have HM := Lib.hid (show ∀ w', Below wb.heap.size wb w' → w'.rangeAt w.heap.size 0 tv.toList ∧ Below (w.heap.size + 1) wb w' from fun w' k => HS.out w' (k.mono (by omega)))
  have DW := Lib.hid (show Below wb.heap.size wb wb.drew from below_dr (Below.refl _ _))
  refine wp_region_held_drew (S := fun w' => w'.rangeAt w.heap.size 0 tv.toList ∧ Below (w.heap.size + 1) wb w') (by kernel_rfl) (HM.out _ DW.out) (fun hHeld => ?_)
  refine' wpAnyH_take (i := 0) (v := _) rfl (by kernel_rfl) (by kernel_rfl) (by kernel_rfl) (fun _ _ _ h => h) (yields_tab (by rfl) _ rfl w.heap.size rfl tv (fun _ h1 => h1.1) SL.out) (by assumption) ?r0u
  try simp only [Act.put]
  refine' wpAnyH_take (i := 1) (v := _) rfl (by kernel_rfl) (by kernel_rfl) (by kernel_rfl) (fun _ _ _ h => h) (yields_tab (by rfl) _ rfl w.heap.size rfl tv (fun _ h1 => h1.1) SL.out) (by assumption) ?r1u
  try simp only [Act.put]
  refine' wpAnyH_take (i := 2) (v := _) rfl (by kernel_rfl) (by kernel_rfl) (by kernel_rfl) (fun _ _ _ h => h) (yields_tab (by rfl) _ rfl w.heap.size rfl tv (fun _ h1 => h1.1) SL.out) (by assumption) ?r2u
  try simp only [Act.put]
  refine wpAnyH_ready (rs := [3]) (by kernel_rfl) (by simp) (AllReadyH.cons rfl (fun K' hK => ?_) AllReadyH.nil)
  go_simp
  go_wp2_with (go_at_call 18; refine (RU.out _ (HR.out.below DW.out)).mono ?_; rintro e x3 ⟨⟨v1, rfl, ho⟩, k3⟩)
  have HO := Lib.hid ho
  have W3 := Lib.hid (below_step DW.out k3)
  clear ho k3
  refine hK.out _ _ (HM.out _ W3.out) (fun hHeld => ?_)
  clear hK K'
  refine wpAnyH_ready (rs := [4]) (by kernel_rfl) (by simp) (AllReadyH.cons rfl (fun K' hK => ?_) AllReadyH.nil)
  have RX := Lib.hid (RO.out v1 x3 (HR.out.below W3.out) ((IntsAt.own HO.out).mono (Nat.zero_le _)))
  rw [OE.out] at RX
  go_simp
  go_wp2_with (go_at_call 19; refine RX.out.mono ?_; rintro e x4 ⟨⟨v2, rfl, ho⟩, k4⟩)
  have HO4 := Lib.hid ho
  have W4 := Lib.hid (below_step W3.out k4)
  clear ho k4
  refine hK.out _ _ (HM.out _ W4.out) (fun hHeld => ?_)
  clear hK K'
  refine wpAnyH_ready (rs := [5]) (by kernel_rfl) (by simp) (AllReadyH.cons rfl (fun K' hK => ?_) AllReadyH.nil)
  have RY := Lib.hid (RN.out v2 x4 (HR.out.below W4.out) ((IntsAt.own HO4.out).mono (Nat.zero_le _)))
  go_simp
  go_wp2_with (go_at_call 23; refine RY.out.mono ?_; rintro e x5 ⟨⟨tu, rfl, h1, h2⟩, k5⟩)
  have FAR := Lib.hid h2
  have W5 := Lib.hid (below_step W4.out k5)
  have hts := h1.size
  have R5 := R0.out.below W5.out
  have ST := store_tab R5 z0_size hts h1.one
  have HR2 := Lib.hid (Blk.row R5 tu)
  have LD := load_tab HR2.out hts
  clear h1 h2 k5 R5
  refine hK.out _ _ (HM.out _ W5.out) (fun hHeld => ?_)
  clear hK K'
  refine wpAnyH_ready (rs := [6]) (by kernel_rfl) (by simp) (AllReadyH.cons rfl (fun K' hK => ?_) AllReadyH.nil)
  go_simp
  have WR := Lib.hid (below_row (W5.out.mono (show w.heap.size + 1 ≤ wb.heap.size by omega)) (Nat.le_refl (w.heap.size + 1)) tu)
  refine hK.out _ _ (HS.out _ WR.out) (fun hHeld => ?_)
  clear hK K' hHeld ST
  refine wpAnyH_done (by kernel_rfl) ?_ _
  go_wp2_with fail
  have hx4 := W4.out.size
  exact bodyPost_ret (v := .agg tu) (by simp [results, Try.results15, asAddr, LD]) rfl ⟨tu, rfl, by rw [TE.out]; exact FAR.out _ _ (by omega), below_row (W0.out.trans (W5.out.mono (by omega))) (by omega) tu⟩
theorem may_step {T : Tb} {l : List Int} {k : Nat} (h : (l.take k).Nodup ∧ ∀ x ∈ l.take k, 0 ≤ x ∧ x < T.next.length) (hk : k < l.length) (h0 : 0 ≤ l[k]) (h1 : l[k] < T.next.length) (h2 : (l.take k).any (· == l[k]) = false) : (l.take (k + 1)).Nodup ∧ ∀ x ∈ l.take (k + 1), 0 ≤ x ∧ x < T.next.length := by
  have hn : l[k] ∉ l.take k := fun hm => by rw [any_mem.2 hm] at h2; exact nomatch h2
  rw [List.take_succ_eq_append_getElem hk]
  refine ⟨?_, fun x hx => ?_⟩
  · rw [List.nodup_append]
    refine ⟨h.1, by simp, fun a ha b hb => ?_⟩
    rw [List.mem_singleton] at hb; subst hb
    intro e; subst e; exact hn ha
  · rcases List.mem_append.1 hx with hx | hx
    · exact h.2 x hx
    · rw [List.mem_singleton] at hx; subst hx; exact ⟨h0, h1⟩
theorem may_not {T : Tb} {l : List Int} {k : Nat} (hk : k < l.length) (h : l[k] < 0 ∨ (T.next.length : Int) ≤ l[k] ∨ (l.take k).any (· == l[k]) = true) : ¬ MayP T l := by
  rintro ⟨hd, hi, _⟩
  obtain ⟨a, b⟩ := hi _ (List.getElem_mem hk)
  rcases h with h | h | h
  · omega
  · omega
  · obtain ⟨j, hj, e⟩ := List.getElem_of_mem (any_mem.1 h)
    rw [List.getElem_take] at e
    rw [List.length_take] at hj
    have := (List.getElem_inj (h₀ := by omega) (h₁ := hk) hd).1 e
    omega
theorem IntsAt.head {w : World} {ao : Option Addr} {cap : Nat} {l : List Int} (h : IntsAt w 0 (.slice ao l.length cap) l) {k : Nat} (hk : k ≤ l.length) : IntsAt w 0 (.slice ao k cap) (l.take k) := by
  obtain ⟨A, c, e, hn, hc⟩ := h
  injection e with e1 e2 e3
  subst e1 e3
  refine ⟨ao, cap, by rw [List.length_take]; congr 1; omega, hn, fun h0 => ?_⟩
  rw [List.length_take] at h0
  obtain ⟨b, o, e, hb, hl, hh⟩ := hc (by omega)
  refine ⟨b, o, e, hb, hl, fun i hi => ?_⟩
  rw [List.length_take] at hi
  rw [hh i (by omega), List.getElem_take]
structure MayIs (b : Bool) (T : Tb) (l : List Int) : Prop where
  fwd : b = true → MayP T l
  bwd : MayP T l → b = true
def MayRet (e : Ending) (T : Tb) (l : List Int) : Prop := ∃ b, e = .returned (.bool b) ∧ MayIs b T l
theorem MayRet.mk {e : Ending} {T : Tb} {l : List Int} {b : Bool} (h : e = .returned (.bool b)) (m : MayIs b T l) : MayRet e T l := ⟨b, h, m⟩
theorem MayIs.no {T : Tb} {l : List Int} (h : ¬ MayP T l) : MayIs false T l := ⟨fun e => (nomatch e), fun m => absurd m h⟩
theorem MayIs.yes {T : Tb} {l : List Int} (h : MayP T l) : MayIs true T l := ⟨fun _ => h, fun _ => rfl⟩
set_option maxHeartbeats 8000000 in
set_option maxRecDepth 100000 in
theorem rmay_c (tv : Array Value) (T : Tb) (l : List Int) (hl : l.length ≤ 1000) (ao : Option Addr) (cap : Nat) (hcap : l.length ≤ cap) (w : World) (h : TbR w tv T) (hv : IntsAt w 0 (.slice ao l.length cap) l) : Calls Try.prog 22 #[.agg tv, .slice ao l.length cap] w fun e w' => MayRet e T l ∧ Below w.heap.size w w' := by
  have K0 := below_alloc (Below.refl w.heap.size w) (.cells tv 26)
  have W0 := Lib.hid K0
  have HT := Lib.hid h.boxed
  have HV := Lib.hid (hv.below K0)
  have RH := Lib.hid (fun (l : List Int) (hl : l.length ≤ 1000000) x base v w h => rhas_c l x hl base v w h)
  have hsz : w.heap.size < (w.alloc (.cells tv 26)).heap.size := by rw [World.size_alloc]; omega
  obtain ⟨c0, c1, cr, an, cn, at_, ct, c3, c4, hra, hta⟩ := HT.out.cells
  have C1 := Lib.hid c1
  have C3 := Lib.hid c3
  clear h hv K0 c0 c1 cr c3 c4 hra hta
  go_enter Try.func22, Try.ntmps22
  go_upto_region 1 with fail
  generalize w.alloc (.cells tv 26) = wb at *
  have B0 := Lib.hid (Below.refl wb.heap.size wb)
  go_wp2_with fail
  go_loopw [5] (fun v wx => ∃ k : Nat, k ≤ l.length ∧ v = .int .i64 k ∧ ((l.take k).Nodup ∧ ∀ x ∈ l.take k, 0 ≤ x ∧ x < T.next.length) ∧ Below wb.heap.size wb wx) (fun v _ => l.length - (intOf v).toNat)
  case atStart => exact ⟨0, by omega, rfl, by simp, B0.out⟩
  case round =>
    clear B0
    obtain ⟨k, hk, rfl, hok, hw⟩ := hrel
    have OK := Lib.hid hok
    have HW := Lib.hid hw
    clear hok
    by_cases hlt : k < l.length
    · have t1 : decide (k < l.length) = true := by simpa
      have hck : k ≤ cap := by omega
      obtain ⟨ob, oo, rfl, hob, ock⟩ := HV.out.at_ hlt
      have ST := Lib.hid (fun h0 h1 h2 => may_step OK.out hlt h0 h1 h2)
      have NO := Lib.hid (fun h => may_not (T := T) hlt h)
      have ock : wr.cell? ⟨ob, oo + k, none⟩ = some (.int .i64 l[k]) := (hw.cell (p := ⟨ob, _, none⟩) hob).trans ock
      have c3 : wr.cell? ⟨w.heap.size, 258, none⟩ = some (.slice an T.next.length cn) := (hw.cell (p := ⟨w.heap.size, _, none⟩) hsz).trans C3.out
      have o2 : ∀ x : Ext wr, x.v.cell? ⟨ob, oo + k, none⟩ = some (.int .i64 l[k]) := fun x => x.cell ock
      have d2 : ∀ x : Ext wr, x.v.cell? ⟨w.heap.size, 258, none⟩ = some (.slice an T.next.length cn) := fun x => x.cell c3
      have RX := Lib.hid (fun x : Ext wr => RH.out (l.take k) (by rw [List.length_take]; omega) l[k] 0 (.slice (some ⟨ob, oo, none⟩) k cap) x.v ((HV.out.head hk).below (below_ext hw x)))
      have hkl : ¬ k = l.length := by omega
      clear hw
      generalize l[k] = y at *
      go_upto_region 4 with fail
      by_cases h0 : y < 0
      · have t2 : decide (y < 0) = true := by simpa
        have NX := Lib.hid (NO.out (.inl h0))
        clear o2 d2
        go_quiet (fail)
        go_wp2_with fail
        go_returns
        exact ⟨MayRet.mk (b := false) rfl (MayIs.no NX.out), below_step W0.out (below_dn HW.out _)⟩
      · have t2 : decide (y < 0) = false := by simpa using h0
        by_cases h1 : (T.next.length : Int) ≤ y
        · have t3 : decide ((T.next.length : Int) ≤ y) = true := by simpa
          have NX := Lib.hid (NO.out (.inr (.inl h1)))
          clear o2 d2
          go_quiet (fail)
          go_wp2_with fail
          go_returns
          exact ⟨MayRet.mk (b := false) rfl (MayIs.no NX.out), below_step W0.out (below_dn HW.out _)⟩
        · have t3 : decide ((T.next.length : Int) ≤ y) = false := by simpa using h1
          have ST1 := Lib.hid (ST.out (by omega) (by omega))
          have NX := Lib.hid (fun h => NO.out (.inr (.inr h)))
          clear ock c3 h0 h1
          generalize (l.take k).any (· == y) = b at *
          refine wp_region_ext (by kernel_rfl) (by kernel_rfl) ?_
          repeat (go_big_quiet_step (first | (go_at_call 33; exact Calls.ext_same ((RX.out _).mono fun e w' h => ⟨h.1, h.2.symm⟩))))
          refine wpQuiet_nil ?_
          intro _ hw'
          obtain ⟨xq, hw''⟩ := hw'
          subst hw''
          have HW1 := Lib.hid (below_ext HW.out xq)
          clear HW o2 d2 RX
          generalize xq.v = wy at *
          cases b with
          | true =>
            have NX2 := Lib.hid (NX.out rfl)
            go_wp2_with fail
            go_returns
            exact ⟨MayRet.mk (b := false) rfl (MayIs.no NX2.out), below_step W0.out HW1.out⟩
          | false =>
            have ST2 := Lib.hid (ST1.out rfl)
            go_wp2_with fail
            go_roundw
            case rel => exact ⟨k + 1, by omega, by go_num, ST2.out, HW1.out⟩
            case measure => simp [intOf]; omega
    · have t1 : decide (k < l.length) = false := by simpa using hlt
      have OK2 := Lib.hid (show l.Nodup ∧ ∀ x ∈ l, 0 ≤ x ∧ x < T.next.length from by have := OK.out; rwa [List.take_of_length_le (by omega)] at this)
      have c1 : wr.cell? ⟨w.heap.size, 1, none⟩ = some (.int .i64 T.start) := (hw.cell (p := ⟨w.heap.size, _, none⟩) hsz).trans C1.out
      have HVR := Lib.hid (HV.out.below hw)
      clear hw
      by_cases h0 : l.length = 0
      · have t2 : ((l.length : Nat) : Int) = 0 := by omega
        have E0 := Lib.hid (List.eq_nil_of_length_eq_zero h0)
        have t3 : ((l.length : Int) == 0) = true := by simp; exact E0.out
        have t4 : (l.length == 0) = true := by simp; exact E0.out
        clear t2 h0
        go_wp2_with fail
        go_returns
        exact ⟨MayRet.mk (b := true) rfl (MayIs.yes ⟨OK2.out.1, OK2.out.2, .inl E0.out⟩), below_step W0.out HW.out⟩
      · have t3 : ((l.length : Int) == 0) = false := by simp; intro e; exact h0 (by rw [e]; rfl)
        have t4 : (l.length == 0) = false := by simp; intro e; exact h0 (by rw [e]; rfl)
        have RX := Lib.hid (RH.out l (by omega) T.start 0 (.slice ao l.length cap) wr HVR.out)
        have MX := Lib.hid (show MayIs (l.any (· == T.start)) T l from ⟨fun h => ⟨OK2.out.1, OK2.out.2, .inr (any_mem.1 h)⟩, fun h => by
          rcases h.2.2 with e | e
          · exact absurd (by rw [e]; rfl) h0
          · exact any_mem.2 e⟩)
        clear h0
        generalize l.any (· == T.start) = b at *
        go_wp2_with (go_at_call 33; refine RX.out.mono ?_; rintro e w1 ⟨rfl, rfl⟩)
        go_returns
        exact ⟨MayRet.mk (b := b) rfl (MX.out), below_step W0.out HW.out⟩
end Go.Proofs.Ytafcnehinanecaa
