/- The walk of SparsePlays. -/
import Derived.Test.YtnlepdffhgikdaaSNew03
namespace Go.Proofs.Ytnlepdffhgikdaa
open Go.RowKit
set_option maxHeartbeats 2000000 in
set_option maxRecDepth 100000 in
theorem splays_big (n : Int) (A : Option Addr) (len cap : Nat) (h : n < 0 ∨ 300 < n ∨ 500 < len) (w : World) : Calls Try.prog 3 #[.int .i64 n, .slice A len cap] w fun e w' => e = .returned (.bool true) ∧ Below w.heap.size w w' := by
  by_cases h3 : 300 < n
  · have t2 : decide (300 < n) = true := by simpa using h3
    clear h
    go_enter Try.func3, Try.ntmps3
    go_wp2_with fail
    refine (awake_c _).mono ?_; rintro e w1 ⟨rfl, h1⟩
    have H1 := Lib.hid h1
    clear h1
    go_wp2_with fail
    refine (awake_c _).mono ?_; rintro e w2 ⟨rfl, h2⟩
    have H2 := Lib.hid (below_step H1.out h2)
    clear h2
    go_wp2_with fail
    go_ret
    exact ⟨rfl, H2.out⟩
  · have t2 : decide (300 < n) = false := by simpa using h3
    by_cases hl : 500 < len
    · have t3 : decide (500 < (len : Int)) = true := by simp; omega
      clear h h3
      go_enter Try.func3, Try.ntmps3
      go_wp2_with fail
      refine (awake_c _).mono ?_; rintro e w1 ⟨rfl, h1⟩
      have H1 := Lib.hid h1
      clear h1
      go_wp2_with fail
      refine (awake_c _).mono ?_; rintro e w2 ⟨rfl, h2⟩
      have H2 := Lib.hid (below_step H1.out h2)
      clear h2
      go_wp2_with fail
      go_ret
      exact ⟨rfl, H2.out⟩
    · have t3 : decide (500 < (len : Int)) = false := by simp; omega
      have hn : n < 0 := by omega
      have HN := Lib.hid hn
      have t4 : decide (n < 0) = true := by simpa using hn
      clear h h3 hn hl
      go_enter Try.func3, Try.ntmps3
      go_wp2_with fail
      refine (awake_c _).mono ?_; rintro e w1 ⟨rfl, h1⟩
      have H1 := Lib.hid h1
      clear h1
      go_wp2_with fail
      refine (snew_arg _ n (.inl HN.out) _).mono ?_; rintro e w2 ⟨rfl, rfl⟩
      go_wp2_with fail
      go_ret
      exact ⟨rfl, H1.out⟩
/-- The set, and the document's list beside it. -/
structure PAt (w wr : World) (g r k : Nat) (s : Sp) (v : Value) : Prop where
  set : Has w wr g r s
  n : s.n = k
  lt : r < g
  list : IntsAt wr (g + 1) v (nats s.l)
theorem PAt.below {w wr w' : World} {g r k : Nat} {s : Sp} {v : Value} (h : PAt w wr g r k s v) (b : Below wr.heap.size wr w') : PAt w w' g r k s v := ⟨h.set.below b, h.n, h.lt, h.list.below b⟩
theorem cell_drewN (w : World) (n : Nat) (p : Addr) : (w.drewN n).cell? p = w.cell? p := rfl
theorem size_drewN (w : World) (n b : Nat) (h : b < w.heap.size) : b < (w.drewN n).heap.size := h
theorem PAt.drewN {w wr : World} {g r k : Nat} {s : Sp} {v : Value} (h : PAt w wr g r k s v) (n : Nat) : PAt w (wr.drewN n) g r k s v := h.below (below_draws (Below.refl _ _) n)
theorem PAt.lt2 {w wr : World} {g r k : Nat} {s : Sp} {v : Value} (h : PAt w wr g r k s v) : ∀ x ∈ [g, r], x < g + 1 := fun x hx => by
  have := h.lt
  simp at hx
  rcases hx with rfl | rfl <;> omega
def MidAt (w wx : World) (g r k bx : Nat) (x0 x : Int) (v : Value) : Prop := ∃ s, PAt w wx g r k s v ∧ Blk wx bx 30 #[.int .i64 x0, .int .i64 x] ∧ bx ∉ [g, r]
theorem PAt.len {w wr : World} {g r k : Nat} {s : Sp} {v : Value} (h : PAt w wr g r k s v) : s.l.length ≤ k := by have := Sp.len_le h.set.ok; rw [h.n] at this; exact this
set_option maxHeartbeats 2000000 in
set_option maxRecDepth 100000 in
theorem splays_c (k : Nat) (hk : k ≤ 300) (A : Option Addr) (len cap : Nat) (X : Nat → Nat → Int) (hl : len ≤ 500) (w : World) (hA : OpsAt w A len X) : Calls Try.prog 3 #[.int .i64 k, .slice A len cap] w fun e w' => e = .returned (.bool true) ∧ Below w.heap.size w w' := by
  have t1 : decide ((k : Int) < 0) = false := by simp
  have t2 : decide (300 < (k : Int)) = false := by simp; omega
  have t3 : decide (500 < (len : Int)) = false := by simp; omega
  have HA := Lib.hid hA
  clear hA
  go_enter Try.func3, Try.ntmps3
  go_wp2_with fail
  refine (awake_c _).mono ?_; rintro e w1 ⟨rfl, h1⟩
  have H1 := Lib.hid h1
  clear h1
  go_wp2_with fail
  refine (snew_c k (by omega) _).mono ?_; rintro e w2 ⟨g, rfl, h1, h2, h3, h4⟩
  have hs1 := H1.out.size
  have HH := Lib.hid (show PAt w w2 g w1.heap.size k (Sp.new k) (.slice none 0 0) from ⟨⟨h1, Sp.new_ok (by omega), by omega, by omega, below_step H1.out h4⟩, rfl, h2, IntsAt.zero _ _ _ _ (fun _ => rfl)⟩)
  generalize w1.heap.size = r at *
  clear h1 h4 h2 h3
  go_wp2_with fail
  go_loopw [7, 40] (fun l i wr => ∃ j : Nat, j ≤ len ∧ i = .int .i64 j ∧ ∃ s, PAt w wr g r k s l) (fun _ i _ => 500 - (intOf i).toNat)
  case atStart => exact ⟨0, by omega, rfl, _, HH.out⟩
  case round =>
    obtain ⟨j, hj, rfl, s, hst⟩ := hrel
    have ST := Lib.hid hst
    clear hst
    by_cases hlt : j < len
    · obtain ⟨b, o, rfl, hb, c0, c1⟩ := ops_at HA.out ST.out.set.bel hlt
      have t4 : decide (j < len) = true := by simp; omega
      have t5 : (j : Int) < (len : Nat) := by omega
      generalize X j 0 = x0 at c0
      generalize X j 1 = x at c1
      go_upto_block 2 with fail
      have hlt1 := ST.out.set.lt
      have M0 := Lib.hid (show MidAt w (wr.alloc (.cells #[.int .i64 x0, .int .i64 x] 30)) g r k wr.heap.size x0 x u7 from ⟨s, ST.out.below ((Below.refl _ _).alloc (Nat.le_refl _) _), Blk.made _ _ _, fun hm => Nat.lt_irrefl _ (hlt1 _ hm)⟩)
      clear hlt1 ST c0 c1
      generalize wr.heap.size = bx at *
      generalize wr.alloc (.cells #[.int .i64 x0, .int .i64 x] 30) = wz at *
      go_cut [7] (fun v wx => MidAt w wx g r k bx x0 x v)
      case first =>
        obtain ⟨s1, hp, hb1, hno⟩ := M0.out
        have c1 : wz.cell? ⟨bx, 1, none⟩ = some (.int .i64 x) := hb1.cell 1
        have hle := hp.len
        have P := Lib.hid hp
        have B := Lib.hid hb1
        have NO := Lib.hid hno
        clear hp hb1 hno M0
        by_cases k1 : x0 = 1
        · have t6 : (x0 == 1) = true := by simp [k1]
          clear k1
          go_wp2_with fail
          refine (radd_c s1.l (by omega) k x (g + 1) u7 _ (by have := P.out.set.set.head.lt; omega) P.out.list).mono ?_; rintro e w4 ⟨v4, rfl, h1, h2⟩
          have B4 := B.out.below h2
          have c1' : w4.cell? ⟨bx, 1, none⟩ = some (.int .i64 x) := B4.cell 1
          have SA := sadd_c s1 P.out.set.ok x g r w4 (P.out.set.set.below h2)
          rw [P.out.n] at SA
          have SA' := Lib.hid SA
          have I4 := Lib.hid h1
          have H4 := Lib.hid (P.out.set.below h2)
          have HB4 := Lib.hid B4
          generalize canAdd k s1.l x = p at *
          clear h1 h2 B4 SA c1
          go_wp2_with fail
          refine SA'.out.mono ?_; rintro e w5 ⟨rfl, h1, h2⟩
          have M5 := Lib.hid (show MidAt w w5 g r k bx x0 x v4 from ⟨s1.add x, ⟨H4.out.only h1 (Sp.add_ok P.out.set.ok x) h2, (Sp.add_n _ _).trans P.out.n, P.out.lt, by rw [Sp.add_l, P.out.n]; exact I4.out.only h2 P.out.lt2⟩, HB4.out.only h2 NO.out, NO.out⟩)
          clear h1 h2 c1'
          go_wp2_with fail
          go_meet
          exact M5.out
        · have t6 : (x0 == 1) = false := by simp [k1]
          by_cases k2 : x0 = 2
          · have t7 : (x0 == 2) = true := by simp [k2]
            clear k1 k2
            go_wp2_with fail
            refine (sclr_c s1 g r _ P.out.set.set).mono ?_; rintro e w4 ⟨rfl, h1, h2⟩
            have M5 := Lib.hid (show MidAt w w4 g r k bx x0 x (.slice none 0 0) from ⟨s1.clear, ⟨P.out.set.only h1 (Sp.clear_ok P.out.set.ok) h2, P.out.n, P.out.lt, IntsAt.zero _ _ _ _ (fun _ => rfl)⟩, B.out.only h2 NO.out, NO.out⟩)
            clear h1 h2 c1
            go_wp2_with fail
            go_meet
            exact M5.out
          · have t7 : (x0 == 2) = false := by simp [k2]
            clear k1 k2
            have M5 := Lib.hid (show MidAt w wz g r k bx x0 x u7 from ⟨s1, P.out, B.out, NO.out⟩)
            go_wp2_with fail
            go_meet
            exact M5.out
      case rest =>
        obtain ⟨s1, hp, hb1, hno⟩ := hcut
        have c1 : wc.cell? ⟨bx, 1, none⟩ = some (.int .i64 x) := hb1.cell 1
        have hle := hp.len
        have P := Lib.hid hp
        have B := Lib.hid hb1
        have NO := Lib.hid hno
        obtain ⟨A7, c7, hv7, hn7, hcell⟩ := hp.list
        subst hv7
        have HC := Lib.hid hcell
        have nl := nats_len s1.l
        have AT := Lib.hid (show ∀ q : Nat, (h : q < (nats s1.l).length) → atL s1.l (q : Int) = (nats s1.l)[q] from fun q h => by
          unfold atL
          rw [if_neg (by omega), dif_pos (by rw [nats_len] at h; simpa using h)]
          simp [nats])
        have AN := Lib.hid (show ∀ q : Int, q < 0 ∨ ((nats s1.l).length : Int) ≤ q → atL s1.l q = -1 from fun q h => by
          unfold atL
          rw [nats_len] at h
          by_cases h0 : q < 0
          · rw [if_pos h0]
          · rw [if_neg h0, dif_neg (by omega)])
        have NL := Lib.hid nl
        have hL : (nats s1.l).length ≤ 300 := by omega
        clear hp hb1 hno M0 hcell hn7 nl
        have hp3 : (x < 0 ∧ atL s1.l x = -1) ∨ (((nats s1.l).length : Int) ≤ x ∧ 0 ≤ x ∧ atL s1.l x = -1) ∨ ∃ q : Nat, ∃ h : q < (nats s1.l).length, x = q ∧ atL s1.l x = (nats s1.l)[q] := by
          by_cases k0 : x < 0
          · exact .inl ⟨k0, AN.out x (.inl k0)⟩
          · by_cases k1 : ((nats s1.l).length : Int) ≤ x
            · exact .inr (.inl ⟨k1, by omega, AN.out x (.inr k1)⟩)
            · refine .inr (.inr ⟨x.toNat, by omega, by omega, ?_⟩)
              have := AT.out x.toNat (by omega)
              rw [show ((x.toNat : Nat) : Int) = x from by omega] at this
              exact this
        have HP := Lib.hid hp3
        clear hp3
        go_upto_region 20 with fail
        go_cut [76] (fun v wx => v = .bool (decide (0 ≤ x) && decide (x < ((nats s1.l).length : Nat))) ∧ wx = wc)
        case first =>
          by_cases k0 : 0 ≤ x
          · have k1 : decide (0 ≤ x) = true := by simpa using k0
            have K1 := Lib.hid k1
            clear k0
            go_wp2_with fail
            go_meet
            exact ⟨by rw [K1.out, Bool.true_and], rfl⟩
          · have k1 : decide (0 ≤ x) = false := by simpa using k0
            have K1 := Lib.hid k1
            clear k0
            go_wp2_with fail
            go_meet
            exact ⟨by rw [K1.out, Bool.false_and], rfl⟩
        case rest =>
         obtain ⟨rfl, hwc2⟩ := hcut
         subst hwc2
         go_upto_if 76 with fail
         go_cut [12] (fun a wx => a = .int .i64 (atL s1.l x) ∧ wx = wc)
         case first =>
          rcases HP.out with ⟨k0, kq⟩ | ⟨k0, k3, kq⟩ | ⟨q, k1, rfl, kq⟩
          · have HQ := Lib.hid kq
            have k1 : ¬ 0 ≤ x := by omega
            clear k0 kq
            go_wp2_with fail
            go_meet
            exact ⟨by rw [HQ.out], rfl⟩
          · have HQ := Lib.hid kq
            have k1 : ¬ x < ((nats s1.l).length : Nat) := by omega
            clear k0 kq
            go_wp2_with fail
            go_meet
            exact ⟨by rw [HQ.out], rfl⟩
          · have HQ := Lib.hid kq
            obtain ⟨b7, o7, rfl, _, hb7, hc7⟩ := HC.out (by omega)
            have cq := hc7 q k1
            generalize (nats s1.l)[q] = y at cq HQ
            have k2 : (q : Int) < ((nats s1.l).length : Nat) := by omega
            have k3 : (0 : Int) ≤ (q : Int) := by omega
            clear hc7 kq
            go_wp2_with fail
            go_meet
            exact ⟨by rw [HQ.out], rfl⟩
         case rest =>
          obtain ⟨rfl, hwc3⟩ := hcut
          subst hwc3
          go_upto_region 22 with fail
          have PD := Lib.hid (show PAt w wc.drew g r k s1 (.slice A7 (nats s1.l).length c7) from P.out.below (below_draws (Below.refl _ _) 1))
          have hbl := B.out.lt
          have HL := Lib.hid hbl
          have KB := Lib.hid (show ∀ W' : World, Below wc.drew.heap.size wc.drew W' → W'.cell? ⟨bx, 1, none⟩ = some (.int .i64 x) from fun W' h => (h.cell (p := ⟨bx, 1, none⟩) HL.out).trans c1)
          have ok1 := P.out.set.ok
          have hn1 := P.out.n
          have hln : (nats s1.l).length ≤ 1000000 := by omega
          have CH1 := Lib.hid (shas_c s1 ok1 x g r _ PD.out.set.set)
          have CH2 := rhas_c (nats s1.l) x hln (g + 1) _ _ PD.out.list
          rw [show (nats s1.l).any (· == x) = hasL s1.l x from by unfold nats; rw [List.any_map]; rfl] at CH2
          have CH2' := Lib.hid CH2
          have CL := slen_c s1 g r _ PD.out.set.set
          rw [show (s1.l.length : Nat) = (nats s1.l).length from (nats_len _).symm] at CL
          have CL' := Lib.hid CL
          have CLI := Lib.hid (slist_c s1 ok1 g r _ PD.out.set.set)
          have hlk : s1.l.length ≤ 1000000 := by omega
          have ess := sort_srt s1.l ok1.nodup k (by have := ok1.lt; rw [hn1] at this; exact this)
          have hls : (nats (srt s1.l k)).length ≤ 1000000 := by
            rw [nats_len]
            have := upto_len (fun y => hasL s1.l y) k
            show (upto _ k).length ≤ _
            omega
          have CSO := fun (w4 : World) (h : SpAt w4 g r s1) => ssort_c s1 ok1 g r w4 h
          rw [ess] at CSO
          have CSO' := Lib.hid CSO
          have CRS := Lib.hid (fun (w4 : World) (v : Value) (h : IntsAt w4 (g + 1) v (nats s1.l)) => rsort_c s1.l hlk k (by omega) (g + 1) v w4 h)
          have CS1 := Lib.hid (fun (w4 : World) (b1 b2 : Nat) (v1 v2 : Value) (i1 : IntsAt w4 b1 v1 (nats s1.l)) (i2 : IntsAt w4 b2 v2 (nats s1.l)) => same_eq _ hln b1 b2 v1 v2 w4 i1 i2)
          have CS2 := Lib.hid (fun (w4 : World) (b1 b2 : Nat) (v1 v2 : Value) (i1 : IntsAt w4 b1 v1 (nats (srt s1.l k))) (i2 : IntsAt w4 b2 v2 (nats (srt s1.l k))) => same_eq _ hls b1 b2 v1 v2 w4 i1 i2)
          have CAT := Lib.hid (fun (w4 : World) (h : SpAt w4 g r s1) => sat_c s1 ok1 x g r w4 h)
          clear CH2 CL CSO ess hls hlk hln ok1 hn1 hbl AN AT HP
          generalize hasL s1.l x = p1 at *
          generalize atL s1.l x = a1 at *
          go_region_held3 (fun w' => w'.cell? ⟨bx, 1, none⟩ = some (.int .i64 x)) (go_keep) (first
            | (go_at_call 13; with_reducible refine CH1.out.mono ?_; rintro e w4 ⟨rfl, rfl⟩)
            | (go_at_call 14; with_reducible refine CH2'.out.mono ?_; rintro e w4 ⟨rfl, rfl⟩)
            | (go_at_call 15; with_reducible refine CL'.out.mono ?_; rintro e w4 ⟨rfl, rfl⟩)
            | (go_at_call 17; with_reducible refine CLI.out.mono ?_; rintro e w4 ⟨v4, rfl, h1, h2⟩; have P4 := Lib.hid (PD.out.below h2); have I4 := Lib.hid h1.at; have hbx4 : w4.cell? ⟨bx, 1, none⟩ = some (.int .i64 x) := KB.out _ h2; have HL4 := Lib.hid (Nat.lt_of_lt_of_le HL.out h2.size); clear h1 h2)
            | (go_at_call 16; with_reducible refine (CS1.out _ _ _ _ _ I4.out P4.out.list).mono ?_; rintro e w5 ⟨rfl, n5, rfl⟩; have P5 := Lib.hid (P4.out.drewN n5); have hbx5 : (w4.drewN n5).cell? ⟨bx, 1, none⟩ = some (.int .i64 x) := (cell_drewN w4 n5 _).trans hbx4; have HL5 := Lib.hid (size_drewN w4 n5 _ HL4.out))
            | (go_at_call 18; with_reducible refine (CSO'.out _ P5.out.set.set).mono ?_; rintro e w6 ⟨v6, rfl, h1, h2⟩; have P6 := Lib.hid (P5.out.below h2); have I6 := Lib.hid h1.at; have hbx6 : w6.cell? ⟨bx, 1, none⟩ = some (.int .i64 x) := (h2.cell (p := ⟨bx, 1, none⟩) HL5.out).trans hbx5; have HL6 := Lib.hid (Nat.lt_of_lt_of_le HL5.out h2.size); clear h1 h2)
            | (go_at_call 19; with_reducible refine (CRS.out _ _ P6.out.list).mono ?_; rintro e w7 ⟨v7, rfl, h1, h2⟩; have P7 := Lib.hid (P6.out.below h2); have I7 := Lib.hid (I6.out.below h2); have J7 := Lib.hid h1.at; have hbx7 : w7.cell? ⟨bx, 1, none⟩ = some (.int .i64 x) := (h2.cell (p := ⟨bx, 1, none⟩) HL6.out).trans hbx6; clear h1 h2)
            | (go_at_call 16; with_reducible refine (CS2.out _ _ _ _ _ I7.out J7.out).mono ?_; rintro e w8 ⟨rfl, n8, rfl⟩; have P8 := Lib.hid (P7.out.drewN n8); have hbx8 : (w7.drewN n8).cell? ⟨bx, 1, none⟩ = some (.int .i64 x) := (cell_drewN w7 n8 _).trans hbx7)
            | (go_at_call 20; with_reducible refine (CAT.out _ P8.out.set.set).mono ?_; rintro e w9 ⟨rfl, rfl⟩))
          all_goals
            go_wp2_with fail
            go_roundw
            case rel => exact ⟨j + 1, by omega, by go_num, _, P8.out⟩
            case measure => simp [intOf]; omega
    · have e : j = len := by omega
      subst e
      have t4 : ¬ j < j := by omega
      go_wp2_with fail
      go_ret
      exact ⟨rfl, ST.out.set.bel⟩
theorem splays_all (n : Int) (A : Option Addr) (len cap : Nat) (X : Nat → Nat → Int) (w : World) (hA : OpsAt w A len X) : Calls Try.prog 3 #[.int .i64 n, .slice A len cap] w fun e w' => e = .returned (.bool true) ∧ Below w.heap.size w w' := by
  by_cases h : n < 0 ∨ 300 < n ∨ 500 < len
  · exact splays_big n A len cap h w
  · obtain ⟨k, rfl⟩ : ∃ k : Nat, n = k := ⟨n.toNat, by omega⟩
    exact splays_c k (by omega) A len cap X (by omega) w hA
end Go.Proofs.Ytnlepdffhgikdaa
