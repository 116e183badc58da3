/- The walk of SparseNew. -/
import Derived.Test.YtnlepdffhgikdaaAwake03
import Derived.Test.YtnlepdffhgikdaaSize
import Derived.Deep.RegionHeld3
namespace Go.Proofs.Ytnlepdffhgikdaa
open Go.RowKit
/-- The cells of a list of calls, as they came in. -/
def OpsAt (w : World) (A : Option Addr) (len : Nat) (X : Nat → Nat → Int) : Prop := 0 < len → ∃ b o, A = some ⟨b, o, none⟩ ∧ b < w.heap.size ∧ ∀ i, i < len → ∀ j, j < 2 → w.cell? ⟨b, o + (i * 2 + j), none⟩ = some (.int .i64 (X i j))
theorem Has.other {w wr w' : World} {g r g' r' : Nat} {s : Sp} (h : Has w wr g' r' s) (k : Only [g, r] wr w') (h1 : g' ∉ [g, r]) (h2 : r' ∉ [g, r]) (hg : w.heap.size ≤ g) (hr : w.heap.size ≤ r) : Has w w' g' r' s :=
  ⟨h.set.only k h1 h2, h.ok, h.hg, h.hr, ((Only.ofBelow [g, r] h.bel).trans k).below (fun x hx => by
    simp at hx
    rcases hx with rfl | rfl <;> assumption)⟩
set_option maxHeartbeats 2000000 in
set_option maxRecDepth 100000 in
theorem snews_big (n : Int) (A1 : Option Addr) (len1 cap1 : Nat) (A2 : Option Addr) (len2 cap2 : Nat) (hl1 : len1 ≤ 140737488351232) (hl2 : len2 ≤ 140737488351232) (h : n < 0 ∨ 300 < n ∨ 500 < len1 + len2) (w : World) : Calls Try.prog 4 #[.int .i64 n, .slice A1 len1 cap1, .slice A2 len2 cap2] w fun e w' => e = .returned (.bool true) ∧ Below w.heap.size w w' := by
  by_cases h0 : n < 0
  · clear h
    go_enter Try.func4, Try.ntmps4
    go_wp2_with fail
    refine (awake_c _).mono ?_; rintro e w1 ⟨rfl, h1⟩
    have H1 := Lib.hid h1
    clear h1
    go_wp2_with fail
    refine (awake_c _).mono ?_; rintro e w2 ⟨rfl, h2⟩
    have H2 := Lib.hid (below_step H1.out h2)
    clear h2
    go_wp2_with fail
    go_ret
    exact ⟨rfl, H2.out⟩
  · have t1 : decide (n < 0) = false := by simpa using h0
    by_cases h3 : 300 < n
    · have t2 : decide (300 < n) = true := by simpa using h3
      clear h h0
      go_enter Try.func4, Try.ntmps4
      go_wp2_with fail
      refine (awake_c _).mono ?_; rintro e w1 ⟨rfl, h1⟩
      have H1 := Lib.hid h1
      clear h1
      go_wp2_with fail
      refine (awake_c _).mono ?_; rintro e w2 ⟨rfl, h2⟩
      have H2 := Lib.hid (below_step H1.out h2)
      clear h2
      go_wp2_with fail
      go_ret
      exact ⟨rfl, H2.out⟩
    · have t2 : decide (300 < n) = false := by simpa using h3
      have hs : 500 < len1 + len2 := by omega
      have t3 : decide (500 < (len1 : Int) + (len2 : Int)) = true := by simp; omega
      clear h h0
      go_enter Try.func4, Try.ntmps4
      go_wp2_with fail
      refine (awake_c _).mono ?_; rintro e w1 ⟨rfl, h1⟩
      have H1 := Lib.hid h1
      clear h1
      go_wp2_with fail
      refine (awake_c _).mono ?_; rintro e w2 ⟨rfl, h2⟩
      have H2 := Lib.hid (below_step H1.out h2)
      clear h2
      go_wp2_with fail
      go_ret
      exact ⟨rfl, H2.out⟩
/-- Where the two sets stand. -/
structure Two (w wr : World) (g r g' r' : Nat) (s t : Sp) (k : Nat) : Prop where
  one : Has w wr g r s
  two : Has w wr g' r' t
  n1 : s.n = k
  n2 : t.n = k
  apart : g' ∉ [g, r] ∧ r' ∉ [g, r] ∧ g ∉ [g', r'] ∧ r ∉ [g', r']
theorem Two.add {w wr w' : World} {g r g' r' : Nat} {s t : Sp} {k : Nat} (h : Two w wr g r g' r' s t k) (x : Int) (h1 : SpAt w' g r (s.add x)) (h2 : Only [g, r] wr w') : Two w w' g r g' r' (s.add x) t k :=
  ⟨h.one.only h1 (Sp.add_ok h.one.ok x) h2, h.two.other h2 h.apart.1 h.apart.2.1 h.one.hg h.one.hr, (Sp.add_n s x).trans h.n1, h.n2, h.apart⟩
theorem Two.add' {w wr w' : World} {g r g' r' : Nat} {s t : Sp} {k : Nat} (h : Two w wr g r g' r' s t k) (x : Int) (h1 : SpAt w' g' r' (t.add x)) (h2 : Only [g', r'] wr w') : Two w w' g r g' r' s (t.add x) k :=
  ⟨h.one.other h2 h.apart.2.2.1 h.apart.2.2.2 h.two.hg h.two.hr, h.two.only h1 (Sp.add_ok h.two.ok x) h2, h.n1, (Sp.add_n t x).trans h.n2, h.apart⟩
theorem Two.clear {w wr w' : World} {g r g' r' : Nat} {s t : Sp} {k : Nat} (h : Two w wr g r g' r' s t k) (h1 : SpAt w' g r s.clear) (h2 : Only [g, r] wr w') : Two w w' g r g' r' s.clear t k :=
  ⟨h.one.only h1 (Sp.clear_ok h.one.ok) h2, h.two.other h2 h.apart.1 h.apart.2.1 h.one.hg h.one.hr, h.n1, h.n2, h.apart⟩
theorem Two.below {w wr w' : World} {g r g' r' : Nat} {s t : Sp} {k : Nat} (h : Two w wr g r g' r' s t k) (b : Below wr.heap.size wr w') : Two w w' g r g' r' s t k := ⟨h.one.below b, h.two.below b, h.n1, h.n2, h.apart⟩
theorem ops_at {w wr : World} {A : Option Addr} {len : Nat} {X : Nat → Nat → Int} (h : OpsAt w A len X) (k : Below w.heap.size w wr) {i : Nat} (hi : i < len) : ∃ b o, A = some ⟨b, o, none⟩ ∧ b < w.heap.size ∧ wr.cell? ⟨b, o + i * 2, none⟩ = some (.int .i64 (X i 0)) ∧ wr.cell? ⟨b, o + i * 2 + 1, none⟩ = some (.int .i64 (X i 1)) := by
  obtain ⟨b, o, rfl, hb, hc⟩ := h (by omega)
  refine ⟨b, o, rfl, hb, ?_, ?_⟩
  · rw [k.cell (p := ⟨b, o + i * 2, none⟩) hb]; exact hc i hi 0 (by omega)
  · rw [k.cell (p := ⟨b, o + i * 2 + 1, none⟩) hb, Nat.add_assoc]; exact hc i hi 1 (by omega)
theorem same_eq (l : List Int) (hl : l.length ≤ 1000000) (b1 b2 : Nat) (v1 v2 : Value) (w : World) (i1 : IntsAt w b1 v1 l) (i2 : IntsAt w b2 v2 l) : Calls Try.prog 16 #[v1, v2] w fun e w' => e = .returned (.bool true) ∧ ∃ n, w' = w.drewN n := by
  have := same_c l l hl hl b1 b2 v1 v2 w i1 i2
  rw [decide_eq_true rfl] at this
  exact this
set_option maxHeartbeats 2000000 in
set_option maxRecDepth 100000 in
theorem snews_c (k : Nat) (hk : k ≤ 300) (A1 : Option Addr) (len1 cap1 : Nat) (X1 : Nat → Nat → Int) (A2 : Option Addr) (len2 cap2 : Nat) (X2 : Nat → Nat → Int) (hl : len1 + len2 ≤ 500) (w : World) (hA1 : OpsAt w A1 len1 X1) (hA2 : OpsAt w A2 len2 X2) : Calls Try.prog 4 #[.int .i64 k, .slice A1 len1 cap1, .slice A2 len2 cap2] w fun e w' => e = .returned (.bool true) ∧ Below w.heap.size w w' := by
  have t1 : decide ((k : Int) < 0) = false := by simp
  have t2 : decide (300 < (k : Int)) = false := by simp; omega
  have t3 : decide (500 < (len1 : Int) + (len2 : Int)) = false := by simp; omega
  have HA1 := Lib.hid hA1
  have HA2 := Lib.hid hA2
  clear hA1 hA2
  go_enter Try.func4, Try.ntmps4
  go_wp2_with fail
  refine (awake_c _).mono ?_; rintro e w1 ⟨rfl, h1⟩
  have H1 := Lib.hid h1
  clear h1
  go_wp2_with fail
  refine (snew_c k (by omega) _).mono ?_; rintro e w2 ⟨g, rfl, h1, h2, h3, h4⟩
  have hs1 := H1.out.size
  have HH := Lib.hid (show Has w w2 g w1.heap.size (Sp.new k) from ⟨h1, Sp.new_ok (by omega), by omega, by omega, below_step H1.out h4⟩)
  have hs2 := h4.size
  generalize w1.heap.size = r at *
  clear h1 h4
  go_wp2_with fail
  refine (snew_c k (by omega) _).mono ?_; rintro e w3 ⟨g', rfl, h1, h5, h6, h4⟩
  have T0 := Lib.hid (show Two w w3 g r g' w2.heap.size (Sp.new k) (Sp.new k) k from ⟨HH.out.below h4, ⟨h1, Sp.new_ok (by omega), by omega, by omega, below_step HH.out.bel h4⟩, rfl, rfl, by simp; omega⟩)
  generalize w2.heap.size = r' at *
  clear h1 h4 HH
  go_wp2_with fail
  go_loopw [46] (fun i wr => ∃ j : Nat, j ≤ len1 ∧ i = .int .i64 j ∧ ∃ s, Two w wr g r g' r' s (Sp.new k) k) (fun i _ => 500 - (intOf i).toNat)
  case atStart => exact ⟨0, by omega, rfl, _, T0.out⟩
  case round =>
    obtain ⟨j, hj, rfl, s, hst⟩ := hrel
    have ST := Lib.hid hst
    clear hst
    by_cases hlt : j < len1
    · obtain ⟨b, o, rfl, hb, c0, c1⟩ := ops_at HA1.out ST.out.one.bel hlt
      have t4 : decide (j < len1) = true := by simp; omega
      have t5 : (j : Int) < (len1 : Nat) := by omega
      generalize X1 j 0 = x0 at c0
      generalize X1 j 1 = x at c1
      go_wp2_with fail
      have ST1 := Lib.hid (ST.out.below ((Below.refl _ _).alloc (Nat.le_refl _) (.cells #[.int .i64 x0, .int .i64 x] 30)))
      refine (sadd_c s ST1.out.one.ok x g r _ ST1.out.one.set).mono ?_; rintro e w4 ⟨rfl, h1, h2⟩
      have ST2 := Lib.hid (ST1.out.add x h1 h2)
      clear h1 h2 c0 c1
      go_wp2_with fail
      go_roundw
      case rel => exact ⟨j + 1, by omega, by go_num, _, ST2.out⟩
      case measure => simp [intOf]; omega
    · have e : j = len1 := by omega
      subst e
      have t4 : ¬ j < j := by omega
      go_wp2_with fail
      refine (sclr_c s g r _ ST.out.one.set).mono ?_; rintro e w4 ⟨rfl, h1, h2⟩
      have ST2 := Lib.hid (ST.out.clear h1 h2)
      clear h1 h2
      go_wp2_with fail
      go_loopw [59] (fun i wr => ∃ q : Nat, q ≤ len2 ∧ i = .int .i64 q ∧ ∃ s t, Two w wr g r g' r' s t k ∧ s.l = t.l) (fun i _ => 500 - (intOf i).toNat)
      case atStart => exact ⟨0, by omega, rfl, _, _, ST2.out, rfl⟩
      case round =>
        obtain ⟨q, hq, rfl, s1, t, hst, hl2⟩ := hrel
        have SV := Lib.hid hst
        have EL := Lib.hid hl2
        clear hst hl2 ST ST2
        by_cases hlq : q < len2
        · obtain ⟨b, o, rfl, hb, c0, c1⟩ := ops_at HA2.out SV.out.one.bel hlq
          have t4 : decide (q < len2) = true := by simp; omega
          have t6 : (q : Int) < (len2 : Nat) := by omega
          generalize X2 q 0 = x0 at c0
          generalize X2 q 1 = x at c1
          go_upto_region 14 with fail
          have hlt1 := SV.out.one.lt
          have B0 := Blk.made wr 30 #[.int .i64 x0, .int .i64 x]
          have SW := Lib.hid (SV.out.below ((Below.refl _ _).alloc (Nat.le_refl _) (.cells #[.int .i64 x0, .int .i64 x] 30)))
          have hbx : (wr.alloc (.cells #[.int .i64 x0, .int .i64 x] 30)).cell? ⟨wr.heap.size, 1, none⟩ = some (.int .i64 x) := B0.cell 1
          have hbl := B0.lt
          have hnot : wr.heap.size ∉ [g, r] := fun hm => Nat.lt_irrefl _ (hlt1 _ hm)
          have hnot' : wr.heap.size ∉ [g', r'] := fun hm => Nat.lt_irrefl _ (SV.out.two.lt _ hm)
          have NOT := Lib.hid (And.intro hnot hnot')
          clear hnot hnot' hlt1 B0 c0 c1 SV
          generalize wr.heap.size = bx at *
          generalize wr.alloc (.cells #[.int .i64 x0, .int .i64 x] 30) = wz at *
          have HL := Lib.hid hbl
          have KB := Lib.hid (show ∀ W' : World, Only [g, r] wz.drew W' → W'.cell? ⟨bx, 1, none⟩ = some (.int .i64 x) from fun W' h => (h.cell (p := ⟨bx, 1, none⟩) HL.out NOT.out.1).trans hbx)
          have SD := Lib.hid (show Two w wz.drew g r g' r' s1 t k from SW.out.below (below_draws (Below.refl _ _) 1))
          have hlx : hasL t.l x = hasL s1.l x := by rw [EL.out]
          have hcx : canAdd t.n t.l x = canAdd s1.n s1.l x := by rw [EL.out, SD.out.n1, SD.out.n2]
          have hax : (t.add x).l = (s1.add x).l := by rw [Sp.add_l, Sp.add_l, EL.out, SD.out.n1, SD.out.n2]
          have HX := Lib.hid hax
          have CH1 := shas_c s1 SD.out.one.ok x g r _ SD.out.one.set
          have CH2 := shas_c t SD.out.two.ok x g' r' _ SD.out.two.set
          rw [hlx] at CH2
          have CA1 := sadd_c s1 SD.out.one.ok x g r _ SD.out.one.set
          have CA2 := fun (w4 : World) (h : SpAt w4 g' r' t) => sadd_c t SD.out.two.ok x g' r' w4 h
          rw [hcx] at CA2
          have CL2 := fun (w4 : World) (h : SpAt w4 g' r' (t.add x)) => slen_c (t.add x) g' r' w4 h
          rw [hax] at CL2
          have CL2' := Lib.hid CL2
          have hln : (nats (s1.add x).l).length ≤ 1000000 := by
            have h1 := Sp.len_le (Sp.add_ok SD.out.one.ok x)
            rw [Sp.add_n, SD.out.n1] at h1
            rw [nats_len]; omega
          have CS := Lib.hid (fun (w4 : World) (b1 b2 : Nat) (v1 v2 : Value) (i1 : IntsAt w4 b1 v1 (nats (s1.add x).l)) (i2 : IntsAt w4 b2 v2 (nats (s1.add x).l)) => same_eq _ hln b1 b2 v1 v2 w4 i1 i2)
          have CH1' := Lib.hid CH1
          have CH2' := Lib.hid CH2
          have CA1' := Lib.hid CA1
          have CA2' := Lib.hid CA2
          generalize hasL s1.l x = p1 at *
          generalize canAdd s1.n s1.l x = p2 at *
          clear CH1 CH2 CA1 CA2 CL2 hlx hcx hax SW hbl hln
          go_region_held3 (fun w' => w'.cell? ⟨bx, 1, none⟩ = some (.int .i64 x)) (go_keep) (first
            | (go_at_call 13; with_reducible refine CH1'.out.mono ?_; rintro e w4 ⟨rfl, rfl⟩)
            | (go_at_call 13; with_reducible refine CH2'.out.mono ?_; rintro e w4 ⟨rfl, rfl⟩)
            | (go_at_call 11; with_reducible refine CA1'.out.mono ?_; rintro e w4 ⟨rfl, h1, h2⟩; have SV4 := Lib.hid (SD.out.add x h1 h2); have hbx4 : w4.cell? ⟨bx, 1, none⟩ = some (.int .i64 x) := KB.out w4 h2; have HL4 := Lib.hid (Nat.lt_of_lt_of_le HL.out h2.size); clear h1 h2)
            | (go_at_call 11; refine (CA2'.out _ SV4.out.two.set).mono ?_; rintro e w5 ⟨rfl, h1, h2⟩; have SV5 := Lib.hid (SV4.out.add' x h1 h2); have hbx5 : w5.cell? ⟨bx, 1, none⟩ = some (.int .i64 x) := (h2.cell (p := ⟨bx, 1, none⟩) HL4.out NOT.out.2).trans hbx4; have HL5 := Lib.hid (Nat.lt_of_lt_of_le HL4.out h2.size); clear h1 h2)
            | (go_at_call 15; with_reducible refine (slen_c (s1.add x) g r _ SV5.out.one.set).mono ?_; rintro e w6 ⟨rfl, rfl⟩)
            | (go_at_call 15; refine (CL2'.out _ SV5.out.two.set).mono ?_; rintro e w6 ⟨rfl, rfl⟩)
            | (go_at_call 17; with_reducible refine (slist_c (s1.add x) SV5.out.one.ok g r _ SV5.out.one.set).mono ?_; rintro e w6 ⟨v6, rfl, h1, h2⟩; have SV6 := Lib.hid (SV5.out.below h2); have I6 := Lib.hid h1.at; have hbx6 : w6.cell? ⟨bx, 1, none⟩ = some (.int .i64 x) := (h2.cell (p := ⟨bx, 1, none⟩) HL5.out).trans hbx5; have HL6 := Lib.hid (Nat.lt_of_lt_of_le HL5.out h2.size); clear h1 h2)
            | (go_at_call 17; refine (slist_c (t.add x) SV6.out.two.ok g' r' _ SV6.out.two.set).mono ?_; rintro e w7 ⟨v7, rfl, h1, h2⟩; have SV7 := Lib.hid (SV6.out.below h2); have I7 := Lib.hid (I6.out.below h2); have J7 := Lib.hid (show IntsAt w7 _ v7 (nats (s1.add x).l) by have hq := h1.at; rw [HX.out] at hq; exact hq); have hbx7 : w7.cell? ⟨bx, 1, none⟩ = some (.int .i64 x) := (h2.cell (p := ⟨bx, 1, none⟩) HL6.out).trans hbx6; clear h1 h2)
            | (go_at_call 16; refine (CS.out _ _ _ _ _ I7.out J7.out).mono ?_; rintro e w8 ⟨rfl, n8, rfl⟩))
          all_goals
            go_wp2_with fail
            go_roundw
            case rel => exact ⟨q + 1, by omega, by go_num, _, _, (SV7.out.below (below_draws (Below.refl _ _) n8)), HX.out.symm⟩
            case measure => simp [intOf]; omega
        · have e : q = len2 := by omega
          subst e
          have t5 : ¬ q < q := by omega
          go_wp2_with fail
          go_ret
          exact ⟨rfl, SV.out.one.bel⟩
theorem snews_all (n : Int) (A1 : Option Addr) (len1 cap1 : Nat) (X1 : Nat → Nat → Int) (A2 : Option Addr) (len2 cap2 : Nat) (X2 : Nat → Nat → Int) (w : World) (hl1 : len1 * 16 ≤ 140737488351232) (hl2 : len2 * 16 ≤ 140737488351232) (hA1 : OpsAt w A1 len1 X1) (hA2 : OpsAt w A2 len2 X2) : Calls Try.prog 4 #[.int .i64 n, .slice A1 len1 cap1, .slice A2 len2 cap2] w fun e w' => e = .returned (.bool true) ∧ Below w.heap.size w w' := by
  by_cases h : n < 0 ∨ 300 < n ∨ 500 < len1 + len2
  · exact snews_big n A1 len1 cap1 A2 len2 cap2 (by omega) (by omega) h w
  · obtain ⟨k, rfl⟩ : ∃ k : Nat, n = k := ⟨n.toNat, by omega⟩
    exact snews_c k (by omega) A1 len1 cap1 X1 A2 len2 cap2 X2 (by omega) w hA1 hA2
end Go.Proofs.Ytnlepdffhgikdaa
