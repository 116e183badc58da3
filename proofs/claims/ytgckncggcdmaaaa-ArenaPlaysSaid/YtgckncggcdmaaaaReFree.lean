/- The document's arena takes a region back. -/
import Derived.Test.YtgckncggcdmaaaaReAlloc
namespace Go.Proofs.Ytgckncggcdmaaaa
open Go.RowKit
theorem zeroAt_snoc {cs : List Int} {b i : Nat} : zeroAt cs b (i + 1) = (zeroAt cs b i).set (b + i) 0 := by
  apply List.ext_getElem?
  intro j
  rcases Nat.lt_or_ge j cs.length with hj | hj
  · rw [zeroAt_get _ _ _ _ hj]
    by_cases e : b + i = j
    · subst e
      rw [List.getElem?_set_self (by rw [zeroAt_len]; exact hj), if_pos (by omega)]
    · rw [List.getElem?_set_ne e, zeroAt_get _ _ _ _ hj]
      by_cases q : b ≤ j ∧ j < b + i
      · rw [if_pos (by omega), if_pos q]
      · rw [if_neg (by omega), if_neg q]
  · rw [List.getElem?_eq_none (by rw [zeroAt_len]; exact hj), List.getElem?_eq_none (by rw [List.length_set, zeroAt_len]; exact hj)]
theorem rfree_no (A : Ar) (l : List Rg) (hl : l.length ≤ 100000) (id : Int) (B h d : Nat) (most : Int) (w : World) (Lv : Value) (q : RefAt w B h d A l most Lv) (hf : idxOf l id = none) :
    Calls Try.prog 24 #[.pointer (some ⟨h, 0, none⟩), .int .i64 id] w fun e w' => e = .returned (.int .i64 7) ∧ w = w' := by
  have FC := rfind_c A l (by omega) id B h d most w Lv q
  unfold idxV at FC
  rw [hf] at FC
  have FC' := Lib.hid FC
  clear FC q hf
  go_enter Try.func24, Try.ntmps24
  go_wp2_with fail
  refine FC'.out.mono ?_
  rintro e w1 ⟨rfl, rfl⟩
  go_wp2_with fail
  go_ret
  exact ⟨rfl, rfl⟩
theorem rfree_fin {w W1 W2 W3 W6 : World} {B h d k : Nat} {A : Ar} {l : List Rg} {most : Int} {Lv Lv' : Value} {o : Obj} {v4 : Value} (q : RefAt w B h d A l most Lv) (hA : A.ok) (hk : k < l.length)
    (o1 : Only [d] (w.alloc o) W1) (hR : Blk W1 d 3 (ints (clearAt A.cs l[k].b l[k].n)).toArray) (b2 : Below W1.heap.size W1 W2) (e4 : v4 = .int .i64 ((A.used : Int) - l[k].n))
    (b3 : Below (W2.setCell ⟨h, 4, none⟩ v4).heap.size (W2.setCell ⟨h, 4, none⟩ v4) W3) (b6 : Below W3.heap.size W3 W6)
    (ho6 : W6.ownsRow B 55 3 Lv' (l.take k ++ l.drop (k + 1)).length (rrCs (l.take k ++ l.drop (k + 1)))) :
    RefAt (W6.setCell ⟨h, 1, none⟩ Lv') B h d (A.free l[k]) (l.take k ++ l.drop (k + 1)) most Lv' ∧ Only [h, d] w (W6.setCell ⟨h, 1, none⟩ Lv') := by
  subst e4
  have onl := q.lt
  have ob' : Lv'.ownBlock ≠ some h := fun e => by have := (ho6.lt h e).1; omega
  have p1 : Only [h, d] w W1 := ((Only.refl _ w).alloc o).trans (o1.mono (by simp))
  have p2 := (p1.trans (Only.ofBelow _ b2)).set (p := ⟨h, 4, none⟩) (.inl (by simp)) (.int .i64 ((A.used : Int) - l[k].n))
  have p3 := ((p2.trans (Only.ofBelow _ b3)).trans (Only.ofBelow _ b6)).set (p := ⟨h, 1, none⟩) (.inl (by simp)) Lv'
  have hr : l[k] ∈ A.rs := q.perm.mem_iff.2 (List.getElem_mem hk)
  have hu := used_free hA hr
  refine ⟨⟨?_, ?_, ?_, perm_free hA q.perm hk, q.hd, q.lt⟩, p3⟩
  · have x1 := (((q.head.alloc o).only o1 (by simpa using q.hd)).below b2).set 4 (.int .i64 ((A.used : Int) - l[k].n))
    refine (((x1.below b3).below b6).set 1 Lv').cast ?_
    have e : (A.used : Int) - l[k].n = ((A.free l[k]).used : Int) := by omega
    rw [e]
    simp [Ar.free]
  · exact own_off ho6 (S := [h]) ((Only.refl _ _).set (p := ⟨h, 1, none⟩) (.inl (by simp)) _) (by intro x hx; simp at hx; subst hx; exact ob')
  · exact ((((hR.below b2).far (p := ⟨h, 4, none⟩) (Ne.symm q.hd) _).below b3).below b6).far (p := ⟨h, 1, none⟩) (Ne.symm q.hd) _
/-- The cells of a part of a row. -/
theorem rrs_news {w : World} {base : Nat} {v : Value} {l : List Rg} (h : w.ownsRow base 55 3 v l.length (rrCs l)) {gb : Nat} (hg : v.ownBlock = some gb) : ∀ j y, (rrCs l)[j]? = some y → w.cell? ⟨gb, j, none⟩ = some y := by
  rcases h.2 with ⟨hv, h0⟩ | ⟨g, cap, cur, hv, hgg, hh, h1, h2, h3, h4⟩
  · rw [hv] at hg; cases hg
  · intro j y hj
    rw [hv] at hg
    have : g = gb := by simpa [Value.ownBlock] using hg
    subst this
    have hB : Blk w g 55 cur := hh
    rw [hB.cell]
    have hjl : j < (rrCs l).length := by
      rcases Nat.lt_or_ge j (rrCs l).length with q | q
      · exact q
      · rw [List.getElem?_eq_none q] at hj; cases hj
    rw [← hj, ← h4, List.getElem?_take_of_lt (by rw [rrCs_len] at hjl; exact hjl), Array.getElem?_toList]
theorem rrCs_one (l : List Rg) : ∀ u ∈ rrCs l, u.oneCell' = true := by
  intro u hu
  unfold rrCs at hu
  obtain ⟨r, _, h⟩ := List.mem_flatMap.1 hu
  simp at h
  rcases h with rfl | rfl | rfl <;> rfl
theorem take_some {α : Type} {l : List α} {m j : Nat} {y : α} (h : (l.take m)[j]? = some y) : l[j]? = some y := by
  rcases Nat.lt_or_ge j m with q | q
  · rwa [List.getElem?_take_of_lt q] at h
  · rw [List.getElem?_take_eq_none q] at h; cases h
theorem rrCs_take (l : List Rg) (k : Nat) : rrCs (l.take k) = (rrCs l).take (k * 3) := by
  induction l generalizing k with
  | nil => simp [rrCs]
  | cons x t ih =>
    cases k with
    | zero => simp [rrCs]
    | succ k =>
      rw [List.take_succ_cons, show (k + 1) * 3 = k * 3 + 3 by omega]
      show _ :: _ :: _ :: rrCs (t.take k) = _
      rw [ih k]
      rfl
theorem rrCs_drop (l : List Rg) (k : Nat) : rrCs (l.drop k) = (rrCs l).drop (k * 3) := by
  induction l generalizing k with
  | nil => simp [rrCs]
  | cons x t ih =>
    cases k with
    | zero => simp
    | succ k =>
      rw [List.drop_succ_cons, show (k + 1) * 3 = k * 3 + 3 by omega, ih k]
      rfl
set_option maxHeartbeats 8000000 in
set_option maxRecDepth 100000 in
theorem rfree_yes (A : Ar) (hA : A.ok) (l : List Rg) (hl : l.length ≤ 100000) (id : Int) (B h d : Nat) (most : Int) (Lv : Value) (w : World) (q : RefAt w B h d A l most Lv) (k : Nat) (hk : k < l.length) (hf : idxOf l id = some k) :
    Calls Try.prog 24 #[.pointer (some ⟨h, 0, none⟩), .int .i64 id] w fun e w' => e = .returned (.int .i64 0) ∧ ∃ Lv', RefAt w' B h d (A.free l[k]) (l.take k ++ l.drop (k + 1)) most Lv' ∧ Only [h, d] w w' := by
  obtain ⟨i0, hi, hz0, hz1, hz2⟩ := info_parts rrInfo
  have FC := rfind_c A l (by omega) id B h d most w Lv q
  unfold idxV at FC
  rw [hf] at FC
  have FC' := Lib.hid FC
  have HQ := Lib.hid q
  have H := Lib.hid hA
  have hsz := hA.size
  have hlen := hA.len
  have hub := hA.used_le
  obtain ⟨ao, cap, hv, hcap, hc⟩ := rrs_cells q.own
  subst hv
  obtain ⟨gb, rfl, hg1, hg2, hcell⟩ := hc (by omega)
  obtain ⟨c1, c2, c3⟩ := hcell k hk
  have hr : l[k] ∈ A.rs := q.perm.mem_iff.2 (List.getElem_mem hk)
  have hre := hA.each _ hr
  have hus := used_free hA hr
  have hc1 := q.head.cell 1
  have hhl := q.head.lt
  have hdl := q.rows.lt
  have hhd := q.hd
  have hlt := q.lt
  simp at hc1
  have HN := Lib.hid (fun (W : World) (ho : W.ownsRow B 55 3 (.slice (some ⟨gb, 0, none⟩) l.length cap) l.length (rrCs l)) => rrs_news ho rfl)
  have FIN := Lib.hid (fun (W1 W2 W3 W6 : World) (o : Obj) (v4 Lv' : Value) o1 hR b2 e4 b3 b6 ho6 => rfree_fin (W1 := W1) (W2 := W2) (W3 := W3) (W6 := W6) (o := o) (v4 := v4) (Lv' := Lv') q hA hk o1 hR b2 e4 b3 b6 ho6)
  have TK := Lib.hid (rrCs_take l k)
  have DR := Lib.hid (rrCs_drop l (k + 1))
  have RL := Lib.hid (rrCs_len l)
  have kcap : k < cap := by omega
  have hcm : cap ≤ maxLen := by
    rcases q.own.2 with ⟨hv, _⟩ | ⟨_, _, _, hv, _, _, _, h2, _, _⟩
    · cases hv
    · injection hv with _ _ e; omega
  unfold maxLen at hcm
  have t2 : (k : Int) < (l.length : Nat) := by omega
  have t3 : decide ((k : Int) < 0) = false := by simp
  clear FC hf hc hcell q hA hr
  generalize l[k] = r at *
  obtain ⟨ri, rb, rn⟩ := r
  simp only at c1 c2 c3 hre hus FIN ⊢
  go_enter Try.func24, Try.ntmps24
  go_wp2_with fail
  refine FC'.out.mono ?_
  rintro e w1 ⟨rfl, rfl⟩
  go_wp2_with fail
  have HBx := Lib.hid (Blk.made w 55 #[.int .i64 (ri : Int), .int .i64 (rb : Int), .int .i64 (rn : Int)])
  have HQ1 := Lib.hid (HQ.out.below ((Below.refl _ w).alloc (Nat.le_refl _) (.cells #[.int .i64 (ri : Int), .int .i64 (rb : Int), .int .i64 (rn : Int)] 55)))
  have hbxn : w.heap.size ≠ h ∧ w.heap.size ≠ d := by omega
  obtain ⟨W0, hW0⟩ : ∃ W0, w.alloc (.cells #[.int .i64 (ri : Int), .int .i64 (rb : Int), .int .i64 (rn : Int)] 55) = W0 := ⟨_, rfl⟩
  have O0 := Lib.hid (show Only [d] (w.alloc (.cells #[.int .i64 (ri : Int), .int .i64 (rb : Int), .int .i64 (rn : Int)] 55)) W0 by rw [hW0]; exact Only.refl _ _)
  rw [hW0] at HBx HQ1 ⊢
  have sW0 : w.heap.size < W0.heap.size := by rw [← hW0]; simp
  clear hW0
  generalize hbx : w.heap.size = bx at *
  have Z0 := Lib.hid (show Blk W0 d 3 (ints (zeroAt A.cs rb 0)).toArray from HQ1.out.rows)
  go_loopw [7] (fun i wr => ∃ j : Nat, j ≤ rn ∧ i = .int .i64 j ∧ Blk wr d 3 (ints (zeroAt A.cs rb j)).toArray ∧ Only [d] W0 wr) (fun i _ => rn - (intOf i).toNat)
  case atStart => exact ⟨0, by omega, rfl, Z0.out, Only.refl _ _⟩
  case round =>
    obtain ⟨j, hj, rfl, hZ, hO⟩ := hrel
    have HZ := Lib.hid hZ
    have HO := Lib.hid hO
    have HXr := Lib.hid (HBx.out.only hO (by simp; omega))
    have HHr := Lib.hid (HQ1.out.head.only hO (by simpa using hhd))
    have sr := hO.size
    clear hZ hO
    have b2 := HXr.out.cell 2
    simp at b2
    by_cases hjt : j < rn
    · have t5 : decide (j < rn) = true := by simpa using hjt
      have t6 : decide ((j : Int) < (rn : Int)) = true := by simp; omega
      have hzl := zeroAt_len j A.cs rb
      have ho : (zeroAt A.cs rb j)[rb + j]? = some ((zeroAt A.cs rb j)[rb + j]'(by omega)) := List.getElem?_eq_getElem _
      generalize (zeroAt A.cs rb j)[rb + j] = old at ho
      have e1 : ∀ x : Ext wr, x.v.cell? ⟨h, 2, none⟩ = some (.slice (some ⟨d, 0, none⟩) A.size A.size) := fun x => x.cell (by have := HHr.out.cell 2; simpa using this)
      have e2 : ∀ x : Ext wr, x.v.cell? ⟨bx, 1, none⟩ = some (.int .i64 (rb : Int)) := fun x => x.cell (by have := HXr.out.cell 1; simpa using this)
      have k1 : ((rb + j : Nat) : Int) < (A.size : Nat) := by omega
      have EO := Lib.hid (show wr.cell? ⟨d, rb + j, none⟩ = some (.int .i64 old) by rw [HZ.out.cell]; simp [ints, ho])
      have EF := Lib.hid (HZ.out.free (rb + j))
      have EL := Lib.hid HZ.out.lt
      clear ho
      go_upto_region 8 with fail
      clear b2
      refine wp_region_ext_tail 9 (by kernel_rfl) (by kernel_rfl) ?_
      simp only [List.take_succ_cons, List.take_zero, List.drop_succ_cons, List.drop_zero]
      repeat (go_big_quiet_step (fail))
      refine wpQuiet_nil ?_
      intro _ hw'
      obtain ⟨xq, hw''⟩ := hw'
      subst hw''
      have hb := xq.h
      have e3 := xq.cell EO.out
      have e4 := (xq.free (o := rb + j) EL.out).trans EF.out
      clear e1 e2
      generalize xq.v = wy at *
      have HBy := Lib.hid hb
      clear hb
      go_wp2_with fail
      go_roundw
      case rel => exact ⟨j + 1, by omega, by go_num, by rw [zeroAt_snoc]; exact ((HZ.out.below HBy.out).set (rb + j) (.int .i64 0)).cast (ints_set _ _ _), (HO.out.trans (Only.ofBelow _ HBy.out)).set (.inl (by simp)) _⟩
      case measure => simp [intOf]; omega
    · have e : j = rn := by omega
      subst e
      have t5 : ¬ j < j := by omega
      have e1 : ∀ x : Ext wr, x.v.cell? ⟨h, 4, none⟩ = some (.int .i64 (A.used : Int)) := fun x => x.cell (by have := HHr.out.cell 4; simpa using this)
      have e2 : ∀ x : Ext wr, x.v.cell? ⟨bx, 2, none⟩ = some (.int .i64 (j : Int)) := fun x => x.cell (by have := HXr.out.cell 2; simpa using this)
      have HRD := Lib.hid (show Blk wr d 3 (ints (clearAt A.cs rb j)).toArray by rw [← zeroAt_eq (by omega)]; exact HZ.out)
      have OWr := Lib.hid (own_off HQ1.out.own HO.out (by intro x hx; simp at hx; subst hx; simp [Value.ownBlock]; omega))
      have HF4 := Lib.hid (HHr.out.free 4)
      have HL4 := Lib.hid HHr.out.lt
      clear HZ
      go_upto_region 9 with fail
      clear b2
      refine wp_region_ext_tail 9 (by kernel_rfl) (by kernel_rfl) ?_
      simp only [List.take_succ_cons, List.take_zero, List.drop_succ_cons, List.drop_zero]
      repeat (go_big_quiet_step (fail))
      refine wpQuiet_nil ?_
      intro _ hw'
      obtain ⟨xq, hw''⟩ := hw'
      subst hw''
      have hb := xq.h
      have e3 := e1 xq
      have e4 := (xq.free (o := 4) HL4.out).trans HF4.out
      clear e1 e2
      generalize xq.v = W2 at *
      have HB2 := Lib.hid hb
      clear hb
      go_upto_region 10 with fail
      have HX := Lib.hid ((HHr.out.below HB2.out).set 4 (.int .i64 ((A.used : Int) - j)))
      have HOW0 := Lib.hid (own_off (own_below OWr.out HB2.out) (S := [h]) ((Only.refl _ W2).set (p := ⟨h, 4, none⟩) (.inl (by simp)) (.int .i64 ((A.used : Int) - j))) (by intro x hx; simp at hx; subst hx; simp [Value.ownBlock]; omega))
      have sz2 := HB2.out.size
      have FIN2 := Lib.hid (fun (W3 W6 : World) (Lv' : Value) (b3 : Below (W2.setCell ⟨h, 4, none⟩ (.int .i64 ((A.used : Int) - j))).heap.size (W2.setCell ⟨h, 4, none⟩ (.int .i64 ((A.used : Int) - j))) W3) b6 ho6 => FIN.out wr W2 W3 W6 _ _ Lv' (O0.out.trans HO.out) HRD.out HB2.out rfl b3 b6 ho6)
      have hs2 : W2.heap.size = (W2.setCell ⟨h, 4, none⟩ (.int .i64 ((A.used : Int) - j))).heap.size := by simp
      generalize W2.setCell ⟨h, 4, none⟩ (.int .i64 ((A.used : Int) - j)) = W4 at *
      have c1 : W4.cell? ⟨h, 1, none⟩ = some (.slice (some ⟨gb, 0, none⟩) l.length cap) := by have := HX.out.cell 1; simpa using this
      have HS := Lib.hid (fun w' (hb : Below W4.drew.heap.size W4.drew w') => (((bcell (below_step (below_draws (Below.refl _ W4) 1) hb)).1 h 1 (by omega)).trans c1 : w'.cell? ⟨h, 1, none⟩ = some (.slice (some ⟨gb, 0, none⟩) l.length cap)))
      have HOW1 := Lib.hid (show W4.drew.ownsRow B 55 3 (.slice (some ⟨gb, 0, none⟩) l.length cap) l.length (rrCs l) from HOW0.out)
      have HX1 := Lib.hid (show Blk W4.drew h 49 _ from HX.out)
      have FIN3 := Lib.hid (fun (W6 : World) (Lv' : Value) b6 ho6 => FIN2.out W4.drew W6 Lv' (below_draws (Below.refl _ _) 1) b6 ho6)
      have hgbs : gb < W4.drew.heap.size := by have := (HOW1.out.lt gb rfl).2; exact this
      have hhs : h < W4.drew.heap.size := HX1.out.lt
      have hBs : B ≤ W4.drew.heap.size := by show B ≤ W4.heap.size; omega
      clear e3 e4 HX HOW0 FIN2 HHr HXr OWr
      have kle : k ≤ cap := by omega
      have kle1 : k + 1 ≤ l.length := by omega
      have wfk : IntKind.i64.wrap ((k : Int) + 1) = (k : Int) + 1 := Int64w (by omega) (by omega)
      have nnk : (0 : Int) ≤ (k : Int) + 1 := by omega
      have tnk : ((k : Int) + 1).toNat = k + 1 := by omega
      have kle2 : ¬ l.length < k + 1 := by omega
      have kle4 : (k : Int) + 1 ≤ (l.length : Int) := by omega
      by_cases hkc : k + 1 = cap
      · subst hkc
        have kle5 : (k : Int) ≤ (k : Int) + 1 := by omega
        have kle6 : (l.length : Int) ≤ (k : Int) + 1 := by omega
        refine wp_region_held_pop (S := fun w' => w'.cell? ⟨h, 1, none⟩ = some (.slice (some ⟨gb, 0, none⟩) l.length (k + 1))) 17 (by kernel_rfl) (by decide) (by kernel_rfl) (HS.out _ (Below.refl _ _)) (fun hHeld => ?_)
        simp only [List.take_succ_cons, List.take_zero, List.drop_succ_cons, List.drop_zero]
        clear c1
        generalize W4.drew = W4 at *
        refine' wpAnyH_take (i := 0) (v := _) rfl (by kernel_rfl) (by kernel_rfl) (by kernel_rfl) (fun _ _ _ h => h) (Or.inl ⟨by kernel_rfl, ?hy0a⟩) (by assumption) ?r0a
        case hy0a => (intro w hSw; (try dsimp only at hSw); go_simp; with_reducible rfl)
        try simp only [Act.put]
        refine' wpAnyH_take (i := 2) (v := _) rfl (by kernel_rfl) (by kernel_rfl) (by kernel_rfl) (fun _ _ _ h => h) (Or.inl ⟨by kernel_rfl, ?hy2a⟩) (by assumption) ?r2a
        case hy2a => (intro w hSw; (try dsimp only at hSw); go_simp; with_reducible rfl)
        try simp only [Act.put]
        refine' wpAnyH_take (i := 3) (v := _) rfl (by kernel_rfl) (by kernel_rfl) (by kernel_rfl) (fun _ _ _ h => h) (Or.inl ⟨by kernel_rfl, ?hy3a⟩) (by assumption) ?r3a
        case hy3a => (intro w hSw; (try dsimp only at hSw); go_simp; with_reducible rfl)
        try simp only [Act.put]
        refine' wpAnyH_take (i := 4) (v := _) rfl (by kernel_rfl) (by kernel_rfl) (by kernel_rfl) (fun _ _ _ h => h) (Or.inl ⟨by kernel_rfl, ?hy4a⟩) (by assumption) ?r4a
        case hy4a => (intro w hSw; (try dsimp only at hSw); go_simp; with_reducible rfl)
        try simp only [Act.put]
        refine' wpAnyH_take (i := 5) (v := _) rfl (by kernel_rfl) (by kernel_rfl) (by kernel_rfl) (fun _ _ _ h => h) (Or.inl ⟨by kernel_rfl, ?hy5a⟩) (by assumption) ?r5a
        case hy5a => (intro w hSw; go_simp; with_reducible rfl)
        try simp only [Act.put]
        refine' wpAnyH_take (i := 6) (v := _) rfl (by kernel_rfl) (by kernel_rfl) (by kernel_rfl) (fun _ _ _ h => h) (Or.inl ⟨by kernel_rfl, ?hy6a⟩) (by assumption) ?r6a
        case hy6a => (intro w hSw; (try dsimp only at hSw); go_simp; with_reducible rfl)
        try simp only [Act.put]
        refine' wpAnyH_take (i := 7) (v := _) rfl (by kernel_rfl) (by kernel_rfl) (by kernel_rfl) (fun _ _ _ h => h) (Or.inl ⟨by kernel_rfl, ?hy7a⟩) (by assumption) ?r7a
        case hy7a => (intro w hSw; (try dsimp only at hSw); go_simp; with_reducible rfl)
        try simp only [Act.put]
        refine' wpAnyH_take (i := 9) (v := _) rfl (by kernel_rfl) (by kernel_rfl) (by kernel_rfl) (fun _ _ _ h => h) (Or.inl ⟨by kernel_rfl, ?hy9a⟩) (by assumption) ?r9a
        case hy9a => (intro w hSw; (try dsimp only at hSw); go_simp; with_reducible rfl)
        try simp only [Act.put]
        refine' wpAnyH_take (i := 10) (v := _) rfl (by kernel_rfl) (by kernel_rfl) (by kernel_rfl) (fun _ _ _ h => h) (Or.inl ⟨by kernel_rfl, ?hy10a⟩) (by assumption) ?r10a
        case hy10a => (intro w hSw; (try dsimp only at hSw); go_simp; with_reducible rfl)
        try simp only [Act.put]
        refine' wpAnyH_take (i := 11) (v := _) rfl (by kernel_rfl) (by kernel_rfl) (by kernel_rfl) (fun _ _ _ h => h) (Or.inl ⟨by kernel_rfl, ?hy11a⟩) (by assumption) ?r11a
        case hy11a => (intro w hSw; (try dsimp only at hSw); go_simp; with_reducible rfl)
        try simp only [Act.put]
        refine' wpAnyH_take (i := 12) (v := _) rfl (by kernel_rfl) (by kernel_rfl) (by kernel_rfl) (fun _ _ _ h => h) (Or.inl ⟨by kernel_rfl, ?hy12a⟩) (by assumption) ?r12a
        case hy12a => (intro w hSw; go_simp; with_reducible rfl)
        try simp only [Act.put]
        refine' wpAnyH_take (i := 13) (v := _) rfl (by kernel_rfl) (by kernel_rfl) (by kernel_rfl) (fun _ _ _ h => h) (Or.inl ⟨by kernel_rfl, ?hy13a⟩) (by assumption) ?r13a
        case hy13a => (intro w hSw; (try dsimp only at hSw); go_simp; with_reducible rfl)
        try simp only [Act.put]
        refine' wpAnyH_take (i := 14) (v := _) rfl (by kernel_rfl) (by kernel_rfl) (by kernel_rfl) (fun _ _ _ h => h) (Or.inl ⟨by kernel_rfl, ?hy14a⟩) (by assumption) ?r14a
        case hy14a => (intro w hSw; (try dsimp only at hSw); go_simp; with_reducible rfl)
        try simp only [Act.put]
        refine' wpAnyH_take (i := 15) (v := _) rfl (by kernel_rfl) (by kernel_rfl) (by kernel_rfl) (fun _ _ _ h => h) (Or.inl ⟨by kernel_rfl, ?hy15a⟩) (by assumption) ?r15a
        case hy15a => (intro w hSw; (try dsimp only at hSw); go_simp; with_reducible rfl)
        try simp only [Act.put]
        refine wpAnyH_ready (rs := [1]) (by kernel_rfl) (by simp) (AllReadyH.cons rfl (fun K' hK => ?_) AllReadyH.nil)
        go_simp
        have W5 := Lib.hid (below_alloc (Below.refl W4.heap.size W4) (.cells #[] 55))
        have own5 : (W4.alloc (.cells #[] 55)).ownsRow W4.heap.size 55 3 (.slice (some ⟨W4.heap.size, 0, none⟩) 0 0) 0 [] := ⟨by simp, .inr ⟨W4.heap.size, 0, #[], rfl, Nat.le_refl _, Blk.made _ _ _, Nat.le_refl _, by unfold maxLen; omega, rfl, by simp⟩⟩
        have OG5 := Lib.hid (own_below HOW1.out W5.out)
        have sz5 : W4.heap.size < (W4.alloc (.cells #[] 55)).heap.size := by simp
        refine hK.out _ _ (HS.out _ W5.out) (fun hHeld => ?_)
        clear hK K'
        generalize W4.alloc (.cells #[] 55) = x5 at *
        refine wpAnyH_ready (rs := [8]) (by kernel_rfl) (by simp) (AllReadyH.cons rfl (fun K' hK => ?_) AllReadyH.nil)
        rw [if_pos (by kernel_rfl)]
        refine wp_append_own _ (.tmp 45) (.tmp 51) 47 rfl W4.heap.size 55 i0 _ 3 24 Try.underlying47 hi hz0 hz1 hz2 rfl (by omega) (.slice (some ⟨W4.heap.size, 0, none⟩) 0 0) 0 [] rfl own5 ⟨gb, 0, none⟩ k (k + 1) (rrCs (l.take k)) rfl (by rw [rrCs_len, List.length_take]; congr 1; omega) (fun jj y hy => by rw [show (⟨gb, 0, none⟩ : Addr).add jj = ⟨gb, jj, none⟩ from by rw [Addr.add_mid]; simp]; refine HN.out _ OG5.out jj y ?_; rw [TK.out] at hy; exact take_some hy) (rrCs_one _) (by unfold maxLen; omega) (by omega) (by omega) ?_
        intro Lv6 W6 hown6 hgr6 _
        have G6 := Lib.hid hgr6
        have B6 := Lib.hid (W5.out.grown hgr6 (Nat.le_of_lt sz5) (fun kk e => by simp [Value.ownBlock] at e; omega))
        have OG6 := Lib.hid (own_below HOW1.out B6.out)
        have FR := Lib.hid (fun kk e => (hown6.lt kk e).1)
        obtain ⟨ao6, cap6, rfl, -⟩ := own_form hown6
        refine hK.out _ _ (HS.out _ B6.out) (fun hHeld => ?_)
        clear hK K' hgr6 own5
        refine wpAnyH_ready (rs := [16]) (by kernel_rfl) (by simp) (AllReadyH.cons rfl (fun K' hK => ?_) AllReadyH.nil)
        rw [if_pos (by kernel_rfl)]
        refine wp_append_own _ (.tmp 52) (.tmp 59) 47 rfl W4.heap.size 55 i0 _ 3 24 Try.underlying47 hi hz0 hz1 hz2 rfl (by omega) _ (0 + k) _ rfl hown6 _ _ _ (rrCs (l.drop (k + 1))) rfl (by rw [rrCs_len, List.length_drop]; omega) (fun jj y hy => by rw [List.drop_of_length_le (by omega)] at hy; cases hy) (rrCs_one _) (by unfold maxLen; omega) (by omega) (by have := B6.out.size; omega) ?_
        intro Lv7 W7 hown7 hgr7 _
        have HO7 := Lib.hid hown7
        have hfr : ∀ kk, (Value.slice ao6 (0 + k) cap6).ownBlock = some kk → W4.heap.size ≤ kk := fun kk e => FR.out kk e
        have B7 := Lib.hid (B6.out.grown hgr7 B6.out.size hfr)
        obtain ⟨ao7, cap7, rfl, -⟩ := own_form hown7
        refine hK.out _ _ (HS.out _ B7.out) (fun hHeld => ?_)
        clear hK K' hown7 hgr7 hown6 hfr
        clear hHeld
        refine wpAnyH_done (by kernel_rfl) ?_ _
        rw [PopQ_normal]
        have hb7 := HX1.out.below B7.out
        have c1 := hb7.cell 1
        have f1 := hb7.free 1
        simp at c1
        have hs7 : h < W7.heap.size := hb7.lt
        clear hb7
        go_wp2_with fail
        go_ret
        have hcs : ([] ++ rrCs (l.take k)) ++ rrCs (l.drop (k + 1)) = rrCs (l.take k ++ l.drop (k + 1)) := by rw [rrCs_app]; rfl
        have ho7 := own_mono HO7.out hBs
        rw [hcs] at ho7
        have hlen7 : (l.take k ++ l.drop (k + 1)).length = 0 + k + 0 := by rw [List.length_append, List.length_take, List.length_drop]; omega
        obtain ⟨r1, r2⟩ := FIN3.out W7 _ B7.out (by rw [hlen7]; exact ho7)
        simp only [Nat.zero_add, Nat.add_zero] at r1 r2
        first | exact ⟨rfl, _, r1, r2⟩ | exact ⟨rfl, ⟨_, r1⟩, r2⟩
      · have k1 : ¬ cap = k + 1 := by omega
        have k3 : k + 1 ≤ cap := by omega
        refine wp_region_held_pop (S := fun w' => w'.cell? ⟨h, 1, none⟩ = some (.slice (some ⟨gb, 0, none⟩) l.length cap)) 17 (by kernel_rfl) (by decide) (by kernel_rfl) (HS.out _ (Below.refl _ _)) (fun hHeld => ?_)
        simp only [List.take_succ_cons, List.take_zero, List.drop_succ_cons, List.drop_zero]
        clear c1
        generalize W4.drew = W4 at *
        refine' wpAnyH_take (i := 0) (v := _) rfl (by kernel_rfl) (by kernel_rfl) (by kernel_rfl) (fun _ _ _ h => h) (Or.inl ⟨by kernel_rfl, ?hy0b⟩) (by assumption) ?r0b
        case hy0b => (intro w hSw; (try dsimp only at hSw); go_simp; with_reducible rfl)
        try simp only [Act.put]
        refine' wpAnyH_take (i := 2) (v := _) rfl (by kernel_rfl) (by kernel_rfl) (by kernel_rfl) (fun _ _ _ h => h) (Or.inl ⟨by kernel_rfl, ?hy2b⟩) (by assumption) ?r2b
        case hy2b => (intro w hSw; (try dsimp only at hSw); go_simp; with_reducible rfl)
        try simp only [Act.put]
        refine' wpAnyH_take (i := 3) (v := _) rfl (by kernel_rfl) (by kernel_rfl) (by kernel_rfl) (fun _ _ _ h => h) (Or.inl ⟨by kernel_rfl, ?hy3b⟩) (by assumption) ?r3b
        case hy3b => (intro w hSw; (try dsimp only at hSw); go_simp; with_reducible rfl)
        try simp only [Act.put]
        refine' wpAnyH_take (i := 4) (v := _) rfl (by kernel_rfl) (by kernel_rfl) (by kernel_rfl) (fun _ _ _ h => h) (Or.inl ⟨by kernel_rfl, ?hy4b⟩) (by assumption) ?r4b
        case hy4b => (intro w hSw; (try dsimp only at hSw); go_simp; with_reducible rfl)
        try simp only [Act.put]
        refine' wpAnyH_take (i := 5) (v := _) rfl (by kernel_rfl) (by kernel_rfl) (by kernel_rfl) (fun _ _ _ h => h) (Or.inl ⟨by kernel_rfl, ?hy5b⟩) (by assumption) ?r5b
        case hy5b => (intro w hSw; go_simp; with_reducible rfl)
        try simp only [Act.put]
        refine' wpAnyH_take (i := 6) (v := _) rfl (by kernel_rfl) (by kernel_rfl) (by kernel_rfl) (fun _ _ _ h => h) (Or.inl ⟨by kernel_rfl, ?hy6b⟩) (by assumption) ?r6b
        case hy6b => (intro w hSw; (try dsimp only at hSw); go_simp; with_reducible rfl)
        try simp only [Act.put]
        refine' wpAnyH_take (i := 7) (v := _) rfl (by kernel_rfl) (by kernel_rfl) (by kernel_rfl) (fun _ _ _ h => h) (Or.inl ⟨by kernel_rfl, ?hy7b⟩) (by assumption) ?r7b
        case hy7b => (intro w hSw; (try dsimp only at hSw); go_simp; with_reducible rfl)
        try simp only [Act.put]
        refine' wpAnyH_take (i := 9) (v := _) rfl (by kernel_rfl) (by kernel_rfl) (by kernel_rfl) (fun _ _ _ h => h) (Or.inl ⟨by kernel_rfl, ?hy9b⟩) (by assumption) ?r9b
        case hy9b => (intro w hSw; (try dsimp only at hSw); go_simp; with_reducible rfl)
        try simp only [Act.put]
        refine' wpAnyH_take (i := 10) (v := _) rfl (by kernel_rfl) (by kernel_rfl) (by kernel_rfl) (fun _ _ _ h => h) (Or.inl ⟨by kernel_rfl, ?hy10b⟩) (by assumption) ?r10b
        case hy10b => (intro w hSw; (try dsimp only at hSw); go_simp; with_reducible rfl)
        try simp only [Act.put]
        refine' wpAnyH_take (i := 11) (v := _) rfl (by kernel_rfl) (by kernel_rfl) (by kernel_rfl) (fun _ _ _ h => h) (Or.inl ⟨by kernel_rfl, ?hy11b⟩) (by assumption) ?r11b
        case hy11b => (intro w hSw; (try dsimp only at hSw); go_simp; with_reducible rfl)
        try simp only [Act.put]
        refine' wpAnyH_take (i := 12) (v := _) rfl (by kernel_rfl) (by kernel_rfl) (by kernel_rfl) (fun _ _ _ h => h) (Or.inl ⟨by kernel_rfl, ?hy12b⟩) (by assumption) ?r12b
        case hy12b => (intro w hSw; go_simp; with_reducible rfl)
        try simp only [Act.put]
        refine' wpAnyH_take (i := 13) (v := _) rfl (by kernel_rfl) (by kernel_rfl) (by kernel_rfl) (fun _ _ _ h => h) (Or.inl ⟨by kernel_rfl, ?hy13b⟩) (by assumption) ?r13b
        case hy13b => (intro w hSw; (try dsimp only at hSw); go_simp; with_reducible rfl)
        try simp only [Act.put]
        refine' wpAnyH_take (i := 14) (v := _) rfl (by kernel_rfl) (by kernel_rfl) (by kernel_rfl) (fun _ _ _ h => h) (Or.inl ⟨by kernel_rfl, ?hy14b⟩) (by assumption) ?r14b
        case hy14b => (intro w hSw; (try dsimp only at hSw); go_simp; with_reducible rfl)
        try simp only [Act.put]
        refine' wpAnyH_take (i := 15) (v := _) rfl (by kernel_rfl) (by kernel_rfl) (by kernel_rfl) (fun _ _ _ h => h) (Or.inl ⟨by kernel_rfl, ?hy15b⟩) (by assumption) ?r15b
        case hy15b => (intro w hSw; (try dsimp only at hSw); go_simp; with_reducible rfl)
        try simp only [Act.put]
        refine wpAnyH_ready (rs := [1]) (by kernel_rfl) (by simp) (AllReadyH.cons rfl (fun K' hK => ?_) AllReadyH.nil)
        go_simp
        have W5 := Lib.hid (below_alloc (Below.refl W4.heap.size W4) (.cells #[] 55))
        have own5 : (W4.alloc (.cells #[] 55)).ownsRow W4.heap.size 55 3 (.slice (some ⟨W4.heap.size, 0, none⟩) 0 0) 0 [] := ⟨by simp, .inr ⟨W4.heap.size, 0, #[], rfl, Nat.le_refl _, Blk.made _ _ _, Nat.le_refl _, by unfold maxLen; omega, rfl, by simp⟩⟩
        have OG5 := Lib.hid (own_below HOW1.out W5.out)
        have sz5 : W4.heap.size < (W4.alloc (.cells #[] 55)).heap.size := by simp
        refine hK.out _ _ (HS.out _ W5.out) (fun hHeld => ?_)
        clear hK K'
        generalize W4.alloc (.cells #[] 55) = x5 at *
        refine wpAnyH_ready (rs := [8]) (by kernel_rfl) (by simp) (AllReadyH.cons rfl (fun K' hK => ?_) AllReadyH.nil)
        rw [if_pos (by kernel_rfl)]
        refine wp_append_own _ (.tmp 45) (.tmp 51) 47 rfl W4.heap.size 55 i0 _ 3 24 Try.underlying47 hi hz0 hz1 hz2 rfl (by omega) (.slice (some ⟨W4.heap.size, 0, none⟩) 0 0) 0 [] rfl own5 ⟨gb, 0, none⟩ k cap (rrCs (l.take k)) rfl (by rw [rrCs_len, List.length_take]; congr 1; omega) (fun jj y hy => by rw [show (⟨gb, 0, none⟩ : Addr).add jj = ⟨gb, jj, none⟩ from by rw [Addr.add_mid]; simp]; refine HN.out _ OG5.out jj y ?_; rw [TK.out] at hy; exact take_some hy) (rrCs_one _) (by unfold maxLen; omega) (by omega) (by omega) ?_
        intro Lv6 W6 hown6 hgr6 _
        have G6 := Lib.hid hgr6
        have B6 := Lib.hid (W5.out.grown hgr6 (Nat.le_of_lt sz5) (fun kk e => by simp [Value.ownBlock] at e; omega))
        have OG6 := Lib.hid (own_below HOW1.out B6.out)
        have FR := Lib.hid (fun kk e => (hown6.lt kk e).1)
        obtain ⟨ao6, cap6, rfl, -⟩ := own_form hown6
        refine hK.out _ _ (HS.out _ B6.out) (fun hHeld => ?_)
        clear hK K' hgr6 own5
        refine wpAnyH_ready (rs := [16]) (by kernel_rfl) (by simp) (AllReadyH.cons rfl (fun K' hK => ?_) AllReadyH.nil)
        rw [if_pos (by kernel_rfl)]
        refine wp_append_own _ (.tmp 52) (.tmp 59) 47 rfl W4.heap.size 55 i0 _ 3 24 Try.underlying47 hi hz0 hz1 hz2 rfl (by omega) _ (0 + k) _ rfl hown6 _ _ _ (rrCs (l.drop (k + 1))) rfl (by rw [rrCs_len, List.length_drop]) (fun jj y hy => by rw [show (⟨gb, (k + 1) * 3, none⟩ : Addr).add jj = ⟨gb, (k + 1) * 3 + jj, none⟩ from by rw [Addr.add_mid]]; refine HN.out _ OG6.out _ y ?_; rw [DR.out, List.getElem?_drop] at hy; exact hy) (rrCs_one _) (by unfold maxLen; omega) (by omega) (by have := B6.out.size; omega) ?_
        intro Lv7 W7 hown7 hgr7 _
        have HO7 := Lib.hid hown7
        have hfr : ∀ kk, (Value.slice ao6 (0 + k) cap6).ownBlock = some kk → W4.heap.size ≤ kk := fun kk e => FR.out kk e
        have B7 := Lib.hid (B6.out.grown hgr7 B6.out.size hfr)
        obtain ⟨ao7, cap7, rfl, -⟩ := own_form hown7
        refine hK.out _ _ (HS.out _ B7.out) (fun hHeld => ?_)
        clear hK K' hown7 hgr7 hown6 hfr
        clear hHeld
        refine wpAnyH_done (by kernel_rfl) ?_ _
        rw [PopQ_normal]
        have hb7 := HX1.out.below B7.out
        have c1 := hb7.cell 1
        have f1 := hb7.free 1
        simp at c1
        have hs7 : h < W7.heap.size := hb7.lt
        clear hb7
        go_wp2_with fail
        go_ret
        have hcs : ([] ++ rrCs (l.take k)) ++ rrCs (l.drop (k + 1)) = rrCs (l.take k ++ l.drop (k + 1)) := by rw [rrCs_app]; rfl
        have ho7 := own_mono HO7.out hBs
        rw [hcs] at ho7
        have hlen7 : (l.take k ++ l.drop (k + 1)).length = 0 + k + (l.length - (k + 1)) := by rw [List.length_append, List.length_take, List.length_drop]; omega
        obtain ⟨r1, r2⟩ := FIN3.out W7 _ B7.out (by rw [hlen7]; exact ho7)
        simp only [Nat.zero_add] at r1 r2
        first | exact ⟨rfl, _, r1, r2⟩ | exact ⟨rfl, ⟨_, r1⟩, r2⟩
end Go.Proofs.Ytgckncggcdmaaaa
