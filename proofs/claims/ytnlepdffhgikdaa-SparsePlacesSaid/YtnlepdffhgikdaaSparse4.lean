/- The sparse set's lists, sorted; the document's. -/
import Derived.Test.YtnlepdffhgikdaaSparse3
import Derived.Laws.AppendOwnNone
namespace Go.Proofs.Ytnlepdffhgikdaa
open Go.RowKit
theorem Own.at {w : World} {base : Nat} {v : Value} {l : List Int} (h : Own w base v l) : IntsAt w base v l := IntsAt.own h
set_option maxHeartbeats 1000000 in
set_option maxRecDepth 100000 in
theorem ssort_c (s : Sp) (h : s.ok) (g r : Nat) (w : World) (hs : SpAt w g r s) : Calls Try.prog 18 #[.pointer (some ⟨g, 0, none⟩)] w fun e w' => ∃ v, e = .returned v ∧ Own w' w.heap.size v (sortI (nats s.l)) ∧ Below w.heap.size w w' := by
  have LC := Lib.hid (slist_c s h g r w hs)
  have hl : (nats s.l).length ≤ 1000000 := by have := Sp.len_le h; have := h.small; rw [nats_len]; omega
  clear hs h
  go_enter Try.func18, Try.ntmps18
  go_wp2_with fail
  refine LC.out.mono ?_; rintro e w1 ⟨v, rfl, h1, h2⟩
  have H1 := Lib.hid h1
  have H2 := Lib.hid h2
  clear h1 h2
  go_wp2_with fail
  refine (sort_c (nats s.l) hl w.heap.size v w1 H1.out).mono ?_; rintro e w2 ⟨rfl, h1, h2⟩
  have H3 := Lib.hid h1
  have H4 := Lib.hid h2
  clear h1 h2
  go_wp2_with fail
  go_ret
  exact ⟨v, rfl, H3.out, H2.out.trans H4.out⟩
set_option maxHeartbeats 1000000 in
theorem ssort_nil (w : World) : Calls Try.prog 18 #[.pointer none] w fun e w' => e = .returned (.slice none 0 0) ∧ w = w' := by
  go_enter Try.func18, Try.ntmps18
  go_wp2_with fail
  refine (slist_nil w).mono ?_; rintro e w1 ⟨rfl, rfl⟩
  go_wp2_with fail
  refine (Try.slices_Sort_int_none none 0 _).mono ?_; rintro e w1 ⟨rfl, rfl⟩
  go_wp2_with fail
  go_ret
  exact ⟨rfl, rfl⟩
theorem own_built (w : World) : (w.alloc (.cells #[] 3)).ownsRow w.heap.size 3 1 (.slice (some ⟨w.heap.size, 0, none⟩) 0 0) 0 [] :=
  ⟨by simp, .inr ⟨w.heap.size, 0, #[], rfl, Nat.le_refl _, Blk.made _ _ _, Nat.le_refl _, by unfold maxLen; omega, rfl, by simp⟩⟩
set_option maxHeartbeats 1000000 in
set_option maxRecDepth 100000 in
theorem radd_no (l : List Nat) (hl : l.length ≤ 1000000) (n x : Int) (hc : x < 0 ∨ n ≤ x ∨ hasL l x = true) (base : Nat) (v : Value) (w : World) (h : IntsAt w base v (nats l)) : Calls Try.prog 10 #[v, .int .i64 n, .int .i64 x] w fun e w' => e = .returned (.tuple #[v, .bool false]) ∧ w = w' := by
  have RH := Lib.hid (rhas_c (nats l) x (by rw [nats_len]; exact hl) base v w h)
  obtain ⟨A, cap, rfl, _, _⟩ := h
  by_cases h0 : x < 0
  · clear hc
    go_enter Try.func10, Try.ntmps10
    go_wp2_with fail
    go_ret2
    exact ⟨rfl, rfl⟩
  · have t1 : decide (x < 0) = false := by simpa using h0
    by_cases h1 : n ≤ x
    · clear hc h0
      have t2 : decide (n ≤ x) = true := by simpa using h1
      go_enter Try.func10, Try.ntmps10
      go_wp2_with fail
      go_ret2
      exact ⟨rfl, rfl⟩
    · have t2 : decide (n ≤ x) = false := by simpa using h1
      have hh : (nats l).any (· == x) = true := by
        have : hasL l x = true := by
          rcases hc with h | h | h
          · omega
          · omega
          · exact h
        unfold nats; rw [List.any_map]; exact this
      have RQ := RH.out
      rw [hh] at RQ
      have RQ' := Lib.hid RQ
      clear hc h0 h1 hh RH RQ
      go_enter Try.func10, Try.ntmps10
      go_wp2_with fail
      refine RQ'.out.mono ?_; rintro e w1 ⟨rfl, rfl⟩
      go_wp2_with fail
      go_ret2
      exact ⟨rfl, rfl⟩
set_option maxHeartbeats 2000000 in
set_option maxRecDepth 100000 in
theorem radd_yes (l : List Nat) (hl : l.length ≤ 1000000) (n x : Int) (h0 : 0 ≤ x) (h1 : x < n) (hh : hasL l x = false) (base : Nat) (v : Value) (w : World) (h : IntsAt w base v (nats l)) : Calls Try.prog 10 #[v, .int .i64 n, .int .i64 x] w fun e w' => ∃ v', e = .returned (.tuple #[v', .bool true]) ∧ Own w' w.heap.size v' (nats l ++ [x]) ∧ Below w.heap.size w w' := by
  have RH := rhas_c (nats l) x (by rw [nats_len]; exact hl) base v w h
  rw [show (nats l).any (· == x) = false from by unfold nats; rw [List.any_map]; exact hh] at RH
  have RH' := Lib.hid RH
  have NL := Lib.hid (nats_len l)
  obtain ⟨i0, hi, hz0, hz1, hz2⟩ := info_parts info_int
  obtain ⟨A, cap, rfl, hnil, hcell⟩ := h
  have HC := Lib.hid hcell
  have t1 : decide (x < 0) = false := by simp; omega
  have t2 : decide (n ≤ x) = false := by simp; omega
  clear hcell hh RH
  have own0 := own_built w
  have fin : ∀ (w2 w3 : World) (v2 v3 : Value), w2.ownsRow w.heap.size 3 1 v2 (nats l).length (ints (nats l)) → Below w.heap.size w w2 → (w2.alloc (.cells #[.int .i64 x] 3)).grownBy w3 v2.ownBlock → w3.ownsRow w.heap.size 3 1 v3 ((nats l).length + 1) (ints (nats l) ++ [.int .i64 x]) → Own w3 w.heap.size v3 (nats l ++ [x]) ∧ Below w.heap.size w w3 := fun w2 w3 v2 v3 h2 h3 h4 h5 =>
    ⟨by unfold Own; rw [List.length_append, ints_app]; exact h5, Below.ofGrown (below_alloc h3 _) (h2.alloc _) h4 (Nat.le_refl _) (by have := h3.size; simp; omega)⟩
  have FIN := Lib.hid fin
  clear fin
  rcases A with _ | ad
  · have hz : (nats l).length = 0 := by
      rcases Nat.eq_zero_or_pos (nats l).length with h | h
      · exact h
      · obtain ⟨_, _, e, _⟩ := HC.out h; cases e
    have HZ := Lib.hid (List.eq_nil_of_length_eq_zero hz)
    obtain rfl := hnil rfl
    have O1 := Lib.hid (show (w.alloc (.cells #[] 3)).ownsRow w.heap.size 3 1 (.slice (some ⟨w.heap.size, 0, none⟩) 0 0) (nats l).length (ints (nats l)) by rw [HZ.out]; exact own0)
    have hzz := Lib.hid hz
    rw [hz] at RH'
    rw [hz]
    clear hz
    go_enter Try.func10, Try.ntmps10
    go_wp2_with fail
    refine RH'.out.mono ?_; rintro e w1 ⟨rfl, rfl⟩
    go_wp2_with (first | (at_builtin; refine wpList_append_own_none rfl _ _ 28 rfl w.heap.size 3 i0 1 Try.underlying28 hi _ 0 [] rfl own0 rfl ?_) | (at_builtin; refine wpList_append_own _ rfl _ _ 28 rfl w.heap.size 3 i0 (.int .i64 0) 1 8 Try.underlying28 hi hz0 hz1 hz2 rfl (by decide) _ 0 [] rfl (own0.alloc _) ⟨w.heap.size + 1, 0, none⟩ 1 1 [.int .i64 x] rfl rfl ?c1 ?c2 ?c3 ?c4 ?c5 ?_))
    case c1 => rw [show w.heap.size + 1 = (w.alloc (.cells #[] 3)).heap.size from by simp]; exact cell_one_new _ _ _
    case c2 => intro u hu; simp at hu; subst hu; rfl
    case c3 => unfold maxLen; omega
    case c4 => omega
    case c5 => first | omega | (simp; omega) | simp
    intro v' w2 hown2 hgrow _
    have HF := Lib.hid (FIN.out (w.alloc (.cells #[] 3)) w2 _ v' O1.out (below_alloc (Below.refl _ _) _) hgrow (by rw [HZ.out]; exact hown2))
    clear hown2 hgrow own0
    go_wp2_with fail
    go_ret2
    exact ⟨v', rfl, HF.out⟩
  · have hcell : ∀ j u, (ints (nats l))[j]? = some u → (w.alloc (.cells #[] 3)).cell? (ad.add j) = some u := fun j u hj => by
      have hjl : j < (nats l).length := by
        have := (List.getElem?_eq_some_iff.1 hj).1
        rw [ints_len] at this; exact this
      obtain ⟨b, o, e, _, hb, hc⟩ := HC.out (by omega)
      have := hc j hjl
      unfold ints at hj
      rw [List.getElem?_map, List.getElem?_eq_getElem hjl] at hj
      have e2 : ad = ⟨b, o, none⟩ := by injection e
      rw [e2]
      have ea : (⟨b, o, none⟩ : Addr).add j = ⟨b, o + j, none⟩ := by
        unfold Addr.add; split
        · rename_i h; rw [h]; rfl
        · rfl
      rw [ea, (Below.alloc (Below.refl w.heap.size w) (Nat.le_refl _) _).cell (p := ⟨b, o + j, none⟩) hb, this]
      exact hj
    have HCC := Lib.hid hcell
    clear hcell
    go_enter Try.func10, Try.ntmps10
    go_wp2_with fail
    refine RH'.out.mono ?_; rintro e w1 ⟨rfl, rfl⟩
    go_wp2_with (at_builtin; refine wpList_append_own _ rfl (.tmp 21) (.tmp 22) 28 rfl w.heap.size 3 i0 (.int .i64 0) 1 8 Try.underlying28 hi hz0 hz1 hz2 rfl (by decide) _ 0 [] rfl own0 ad (nats l).length cap (ints (nats l)) rfl (by rw [ints_len, Nat.mul_one]) HCC.out ?c2 ?c3 ?c4 ?c5 ?_)
    case c2 => intro u hu; unfold ints at hu; obtain ⟨q, _, rfl⟩ := List.mem_map.1 hu; rfl
    case c3 => rw [NL.out]; unfold maxLen; omega
    case c4 => rw [NL.out]; omega
    case c5 => first | omega | (simp; omega) | simp
    intro v1 w2 hown1 hgrow1 _
    have hown1' : w2.ownsRow w.heap.size 3 1 v1 (nats l).length (ints (nats l)) := by simpa using hown1
    have hbel := Below.ofGrown (below_alloc (Below.refl w.heap.size w) (.cells #[] 3)) own0 hgrow1 (Nat.le_refl _) (by simp)
    have HB := Lib.hid hbel
    have hw2 := hbel.size
    have HO1 := Lib.hid hown1'
    clear hown1 hgrow1 own0 hbel
    go_wp2_with (at_builtin; refine wpList_append_own _ rfl (.tmp 23) (.tmp 25) 28 rfl w.heap.size 3 i0 (.int .i64 0) 1 8 Try.underlying28 hi hz0 hz1 hz2 rfl (by decide) _ (nats l).length (ints (nats l)) rfl (HO1.out.alloc _) ⟨w2.heap.size, 0, none⟩ 1 1 [.int .i64 x] rfl rfl ?d1 ?d2 ?d3 ?d4 ?d5 ?_)
    case d1 => exact cell_one_new _ _ _
    case d2 => intro u hu; simp at hu; subst hu; rfl
    case d3 => rw [NL.out]; unfold maxLen; omega
    case d4 => rw [NL.out]; omega
    case d5 => first | omega | (simp; omega) | simp
    intro v' w3 hown2 hgrow _
    have HF := Lib.hid (FIN.out w2 w3 v1 v' HO1.out HB.out hgrow hown2)
    clear hown2 hgrow
    go_wp2_with fail
    go_ret2
    exact ⟨v', rfl, HF.out⟩
/-- Adding to a list, whatever is asked. -/
theorem radd_c (l : List Nat) (hl : l.length ≤ 1000000) (n : Nat) (x : Int) (base : Nat) (v : Value) (w : World) (hb : base ≤ w.heap.size) (h : IntsAt w base v (nats l)) : Calls Try.prog 10 #[v, .int .i64 n, .int .i64 x] w fun e w' => ∃ v', e = .returned (.tuple #[v', .bool (canAdd n l x)]) ∧ IntsAt w' base v' (nats (addL n l x)) ∧ Below w.heap.size w w' := by
  cases hc : canAdd n l x with
  | false =>
    refine (radd_no l hl n x ?_ base v w h).mono ?_
    · unfold canAdd at hc
      by_cases h0 : x < 0
      · exact .inl h0
      · by_cases h1 : (n : Int) ≤ x
        · exact .inr (.inl h1)
        · cases hk : hasL l x with
          | true => exact .inr (.inr rfl)
          | false => rw [hk] at hc; simp at hc; omega
    · rintro e w' ⟨rfl, rfl⟩
      exact ⟨v, rfl, by unfold addL; rw [hc]; exact h, Below.refl _ _⟩
  | true =>
    obtain ⟨k, rfl, h1, h2⟩ := canAdd_iff.1 hc
    refine (radd_yes l hl n k (by omega) (by omega) (by rw [hasL_mem]; simpa using h2) base v w h).mono ?_
    rintro e w' ⟨v', rfl, h3, h4⟩
    refine ⟨v', rfl, ?_, h4⟩
    have : nats (addL n l k) = nats l ++ [(k : Int)] := by unfold addL nats; rw [hc]; simp
    rw [this]
    exact h3.at.mono hb
end Go.Proofs.Ytnlepdffhgikdaa
