/- The walks of awake and of SparseNil. -/
import Derived.Test.YtnlepdffhgikdaaSparse6
namespace Go.Proofs.Ytnlepdffhgikdaa
open Go.RowKit
/-- The call has made a set. -/
structure Has (w wr : World) (g r : Nat) (s : Sp) : Prop where
  set : SpAt wr g r s
  ok : s.ok
  hg : w.heap.size ≤ g
  hr : w.heap.size ≤ r
  bel : Below w.heap.size w wr
theorem Has.only {w wr w' : World} {g r : Nat} {s s' : Sp} (h : Has w wr g r s) (h' : SpAt w' g r s') (ho : s'.ok) (k : Only [g, r] wr w') : Has w w' g r s' :=
  ⟨h', ho, h.hg, h.hr, ((Only.ofBelow [g, r] h.bel).trans k).below (fun x hx => by
    have := h.hg; have := h.hr
    simp at hx
    rcases hx with rfl | rfl <;> assumption)⟩
theorem Has.below {w wr w' : World} {g r : Nat} {s : Sp} (h : Has w wr g r s) (k : Below wr.heap.size wr w') : Has w w' g r s := ⟨h.set.below k, h.ok, h.hg, h.hr, below_step h.bel k⟩
theorem Has.drewN {w wr : World} {g r : Nat} {s : Sp} (h : Has w wr g r s) (n : Nat) : Has w (wr.drewN n) g r s := ⟨h.set.drewN n, h.ok, h.hg, h.hr, below_draws h.bel n⟩
theorem Has.alloc {w wr : World} {g r : Nat} {s : Sp} (h : Has w wr g r s) (o : Obj) : Has w (wr.alloc o) g r s := h.below ((Below.refl _ _).alloc (Nat.le_refl _) o)
theorem Has.lt {w wr : World} {g r : Nat} {s : Sp} (h : Has w wr g r s) : ∀ x ∈ [g, r], x < wr.heap.size := fun x hx => by
  have h1 := h.set.head.lt
  have h2 := h.set.rows.lt
  simp at hx
  rcases hx with rfl | rfl <;> assumption
theorem IntsAt.drewN {w : World} {base : Nat} {v : Value} {l : List Int} (h : IntsAt w base v l) (n : Nat) : IntsAt (w.drewN n) base v l := h.moved (Nat.le_refl _) (fun _ _ _ => rfl)
theorem IntsAt.alloc {w : World} {base : Nat} {v : Value} {l : List Int} (h : IntsAt w base v l) (o : Obj) : IntsAt (w.alloc o) base v l := h.below ((Below.refl _ _).alloc (Nat.le_refl _) o)
theorem ints_two (w : World) (a b : Int) : IntsAt (w.alloc (.cells #[.int .i64 a, .int .i64 b] 3)) 0 (.slice (some ⟨w.heap.size, 0, none⟩) 2 2) [a, b] := by
  refine ⟨_, _, rfl, (fun e => by cases e), fun _ => ⟨w.heap.size, 0, rfl, Nat.zero_le _, by simp, fun i hi => ?_⟩⟩
  have hb := Blk.made w 3 #[.int .i64 a, .int .i64 b]
  rw [hb.cell]
  match i, hi with
  | 0, _ => rfl
  | 1, _ => rfl
def S0 : Sp := Sp.new 5
def S1 : Sp := S0.add 3
def S2 : Sp := S1.add 1
def S3 : Sp := S2.add 3
def S4 : Sp := S3.add 5
def S5 : Sp := S4.clear
def S6 : Sp := S5.add 3
theorem S0_ok : S0.ok := Sp.new_ok (by omega)
theorem S1_ok : S1.ok := Sp.add_ok S0_ok 3
theorem S2_ok : S2.ok := Sp.add_ok S1_ok 1
theorem S3_ok : S3.ok := Sp.add_ok S2_ok 3
theorem S4_ok : S4.ok := Sp.add_ok S3_ok 5
theorem S5_ok : S5.ok := Sp.clear_ok S4_ok
theorem S6_ok : S6.ok := Sp.add_ok S5_ok 3
theorem aw_facts : canAdd S0.n S0.l 3 = true ∧ canAdd S1.n S1.l 1 = true ∧ canAdd S2.n S2.l 3 = false ∧ canAdd S3.n S3.l 5 = false ∧ S4.l = [3, 1] ∧ hasL S4.l 3 = true ∧ hasL S5.l 3 = false ∧ S5.l.length = 0 ∧ atL S5.l 0 = -1 ∧ canAdd S5.n S5.l 3 = true ∧ atL S6.l 0 = 3 ∧ srt S4.l 5 = [1, 3] := by decide +kernel
def M0 : Mt := Mt.new 10 0
theorem M0_ok : M0.ok := Mt.new_ok 10 0
theorem m_facts : (M0.take 10).2 = true ∧ ((M0.take 10).1.take 2).2 = false := by decide +kernel
set_option maxHeartbeats 4000000 in
set_option maxRecDepth 100000 in
theorem awake_c (w : World) : Calls Try.prog 8 #[] w fun e w' => e = .returned (.bool true) ∧ Below w.heap.size w w' := by
  obtain ⟨q1, q2, q3, q4, q5, q6, q7, q8, q9, q10, q11, q12⟩ := aw_facts
  obtain ⟨p1, p2⟩ := m_facts
  have N1 := Lib.hid (fun (b : Nat) (w1 : World) (h : MtAt w1 b M0) => snew_yes 5 (by omega) M0 (M0.take 10).1 M0_ok (by rw [← p1]; rfl) b w1 h)
  have N2 := Lib.hid (fun (b : Nat) (w1 : World) (h : MtAt w1 b (M0.take 10).1) => snew_no 1 (by omega) (M0.take 10).1 ((M0.take 10).1.take 2).1 (Mt.take_ok M0_ok 10) (by rw [← p2]; rfl) b w1 h)
  have A1 := fun (g r : Nat) (w1 : World) (h : SpAt w1 g r S0) => sadd_c S0 S0_ok 3 g r w1 h
  have A2 := fun (g r : Nat) (w1 : World) (h : SpAt w1 g r S1) => sadd_c S1 S1_ok 1 g r w1 h
  have A3 := fun (g r : Nat) (w1 : World) (h : SpAt w1 g r S2) => sadd_c S2 S2_ok 3 g r w1 h
  have A4 := fun (g r : Nat) (w1 : World) (h : SpAt w1 g r S3) => sadd_c S3 S3_ok 5 g r w1 h
  have A5 := fun (g r : Nat) (w1 : World) (h : SpAt w1 g r S5) => sadd_c S5 S5_ok 3 g r w1 h
  have L1 := fun (g r : Nat) (w1 : World) (h : SpAt w1 g r S4) => slist_c S4 S4_ok g r w1 h
  have L2 := fun (g r : Nat) (w1 : World) (h : SpAt w1 g r S4) => ssort_c S4 S4_ok g r w1 h
  have H1 := fun (g r : Nat) (w1 : World) (h : SpAt w1 g r S4) => shas_c S4 S4_ok 3 g r w1 h
  have H2 := fun (g r : Nat) (w1 : World) (h : SpAt w1 g r S5) => shas_c S5 S5_ok 3 g r w1 h
  have Z1 := fun (g r : Nat) (w1 : World) (h : SpAt w1 g r S5) => slen_c S5 g r w1 h
  have T1 := fun (g r : Nat) (w1 : World) (h : SpAt w1 g r S5) => sat_c S5 S5_ok 0 g r w1 h
  have T2 := fun (g r : Nat) (w1 : World) (h : SpAt w1 g r S6) => sat_c S6 S6_ok 0 g r w1 h
  rw [q1] at A1
  rw [q2] at A2
  rw [q3] at A3
  rw [q4] at A4
  rw [q10] at A5
  rw [q6] at H1
  rw [q7] at H2
  rw [q8] at Z1
  rw [q9] at T1
  rw [q11] at T2
  have e5 : sortI (nats S4.l) = [1, 3] := by
    rw [sort_srt S4.l S4_ok.nodup 5 S4_ok.lt, q12]; rfl
  rw [e5] at L2
  rw [q5, show nats [3, 1] = [3, 1] from rfl] at L1
  have A1' := Lib.hid A1
  have A2' := Lib.hid A2
  have A3' := Lib.hid A3
  have A4' := Lib.hid A4
  have A5' := Lib.hid A5
  have L1' := Lib.hid L1
  have L2' := Lib.hid L2
  have H1' := Lib.hid H1
  have H2' := Lib.hid H2
  have Z1' := Lib.hid Z1
  have T1' := Lib.hid T1
  have T2' := Lib.hid T2
  clear q1 q2 q3 q4 q5 q6 q7 q8 q9 q10 q11 q12 p1 p2 A1 A2 A3 A4 A5 L1 L2 H1 H2 Z1 T1 T2 e5
  go_enter Try.func8, Try.ntmps8
  go_wp2_with fail
  refine (new_c 10 0 _).mono ?_; rintro e w1 ⟨rfl, rfl⟩
  have hm0 := Lib.hid (show MtAt (w.alloc (.cells (Mt.new 10 0).cs 56)) w.heap.size M0 from Blk.made _ _ _)
  go_wp2_with fail
  refine (N1.out w.heap.size _ hm0.out).mono ?_; rintro e w2 ⟨g, r, rfl, h1, h2, h3, h4, h5⟩
  have hb : Below w.heap.size w w2 := ((Only.ofBelow [w.heap.size] ((Below.refl w.heap.size w).alloc (Nat.le_refl _) (.cells (Mt.new 10 0).cs 56))).trans h5).below (fun x hx => by simp at hx; omega)
  have hh : Has w w2 g r S0 := ⟨h1, S0_ok, by simp at h2; omega, by simp at h2; omega, hb⟩
  have HH := Lib.hid hh
  have HM := Lib.hid h4
  have hrr : w.heap.size + 1 ≤ r := by simpa using h2
  clear h1 h2 h4 h5 hb hh hm0
  go_wp2_with fail
  refine (N2.out w.heap.size _ HM.out).mono ?_; rintro e w3 ⟨rfl, h4, h5⟩
  have HH1 := Lib.hid (show Has w w3 g r S0 from ⟨HH.out.set.only h5 (by simp; omega) (by simp; omega), S0_ok, HH.out.hg, HH.out.hr, ((Only.ofBelow [w.heap.size] HH.out.bel).trans h5).below (fun x hx => by simp at hx; omega)⟩)
  clear h4 h5 HH HM
  go_wp2_with fail
  refine (snew_arg _ (-1) (.inl (by omega)) _).mono ?_; rintro e w4 ⟨rfl, rfl⟩
  go_wp2_with fail
  refine (A1'.out g r _ HH1.out.set).mono ?_; rintro e w4 ⟨rfl, h1, h2⟩
  have HH2 := Lib.hid (HH1.out.only h1 S1_ok h2)
  clear h1 h2
  go_wp2_with fail
  refine (A2'.out g r _ HH2.out.set).mono ?_; rintro e w5 ⟨rfl, h1, h2⟩
  have HH3 := Lib.hid (HH2.out.only h1 S2_ok h2)
  clear h1 h2
  go_wp2_with fail
  refine (A3'.out g r _ HH3.out.set).mono ?_; rintro e w6 ⟨rfl, h1, h2⟩
  have HH4 := Lib.hid (HH3.out.only h1 S3_ok h2)
  clear h1 h2
  go_wp2_with fail
  refine (A4'.out g r _ HH4.out.set).mono ?_; rintro e w7 ⟨rfl, h1, h2⟩
  have HH5 := Lib.hid (HH4.out.only h1 S4_ok h2)
  clear h1 h2
  go_wp2_with fail
  refine (L1'.out g r _ HH5.out.set).mono ?_; rintro e w8 ⟨v1, rfl, h1, h2⟩
  have HH6 := Lib.hid (HH5.out.below h2)
  have I1 := Lib.hid h1.at
  have LT := Lib.hid HH5.out.lt
  clear h1 h2
  go_wp2_with fail
  refine (L2'.out g r _ HH6.out.set).mono ?_; rintro e w9 ⟨v2, rfl, h1, h2⟩
  have HH7 := Lib.hid (HH6.out.below h2)
  have I2 := Lib.hid (I1.out.below h2)
  have I3 := Lib.hid h1.at
  have LT2 := Lib.hid HH6.out.lt
  clear h1 h2
  go_wp2_with fail
  refine (H1'.out g r _ HH7.out.set).mono ?_; rintro e w10 ⟨rfl, rfl⟩
  go_wp2_with fail
  refine (sclr_c S4 g r _ HH7.out.set).mono ?_; rintro e w11 ⟨rfl, h1, h2⟩
  have HH8 := Lib.hid (show Has w w11 g r S5 from HH7.out.only h1 S5_ok h2)
  have I4 := Lib.hid (I2.out.only h2 LT.out)
  have I5 := Lib.hid (I3.out.only h2 LT2.out)
  clear h1 h2
  go_wp2_with fail
  refine (same_c [3, 1] [3, 1] (by simp) (by simp) _ 0 v1 _ _ (I4.out.alloc _) (ints_two _ 3 1)).mono ?_; rintro e w12 ⟨rfl, n1, rfl⟩
  have HH9 := Lib.hid ((HH8.out.alloc (.cells #[.int .i64 3, .int .i64 1] 3)).drewN n1)
  have I6 := Lib.hid ((I5.out.alloc (.cells #[.int .i64 3, .int .i64 1] 3)).drewN n1)
  generalize (w11.alloc (.cells #[.int .i64 3, .int .i64 1] 3)).drewN n1 = w12 at *
  go_wp2_with fail
  refine (same_c [1, 3] [1, 3] (by simp) (by simp) _ 0 v2 _ _ (I6.out.alloc _) (ints_two _ 1 3)).mono ?_; rintro e w13 ⟨rfl, n2, rfl⟩
  have HH10 := Lib.hid ((HH9.out.alloc (.cells #[.int .i64 1, .int .i64 3] 3)).drewN n2)
  generalize (w12.alloc (.cells #[.int .i64 1, .int .i64 3] 3)).drewN n2 = w13 at *
  go_wp2_with fail
  refine (H2'.out g r _ HH10.out.set).mono ?_; rintro e w14 ⟨rfl, rfl⟩
  go_wp2_with fail
  refine (Z1'.out g r _ HH10.out.set).mono ?_; rintro e w14 ⟨rfl, rfl⟩
  go_wp2_with fail
  refine (T1'.out g r _ HH10.out.set).mono ?_; rintro e w14 ⟨rfl, rfl⟩
  go_wp2_with fail
  refine (A5'.out g r _ HH10.out.set).mono ?_; rintro e w14 ⟨rfl, h1, h2⟩
  have HH11 := Lib.hid (show Has w w14 g r S6 from HH10.out.only h1 S6_ok h2)
  clear h1 h2
  go_wp2_with fail
  refine (T2'.out g r _ HH11.out.set).mono ?_; rintro e w15 ⟨rfl, rfl⟩
  go_wp2_with fail
  go_ret
  exact ⟨rfl, HH11.out.bel⟩
set_option maxHeartbeats 2000000 in
theorem nil_c (x : Int) (w : World) : Calls Try.prog 6 #[.int .i64 x] w fun e w' => e = .returned (.bool true) ∧ Below w.heap.size w w' := by
  go_enter Try.func6, Try.ntmps6
  go_wp2_with fail
  refine (sclr_nil _).mono ?_; rintro e w1 ⟨rfl, rfl⟩
  go_wp2_with fail
  refine (sdrop_nil _).mono ?_; rintro e w1 ⟨rfl, rfl⟩
  go_wp2_with fail
  refine (awake_c _).mono ?_; rintro e w1 ⟨rfl, h1⟩
  have HB := Lib.hid h1
  clear h1
  go_wp2_with fail
  refine (sadd_nil x _).mono ?_; rintro e w2 ⟨rfl, rfl⟩
  go_wp2_with fail
  refine (shas_nil x _).mono ?_; rintro e w2 ⟨rfl, rfl⟩
  go_wp2_with fail
  refine (slen_nil _).mono ?_; rintro e w2 ⟨rfl, rfl⟩
  go_wp2_with fail
  refine (sat_nil x _).mono ?_; rintro e w2 ⟨rfl, rfl⟩
  go_wp2_with fail
  refine (slist_nil _).mono ?_; rintro e w2 ⟨rfl, rfl⟩
  go_wp2_with fail
  refine (ssort_nil _).mono ?_; rintro e w2 ⟨rfl, rfl⟩
  go_wp2_with fail
  go_ret
  exact ⟨rfl, HB.out⟩
end Go.Proofs.Ytnlepdffhgikdaa
