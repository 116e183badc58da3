/- The walk of SparseMeter. -/
import Derived.Test.YtnlepdffhgikdaaAwake03
namespace Go.Proofs.Ytnlepdffhgikdaa
open Go.RowKit
theorem m_new (cells : Int) : (Mt.new cells 0).ok ∧ (Mt.new cells 0).used = 0 ∧ 0 ≤ (Mt.new cells 0).cells ∧ (Mt.new cells 0).cells ≤ 1048576 := by
  have h := Mt.new_ok cells 0
  have hb := betw_bd cells (k := 1048576) (by omega)
  exact ⟨h, rfl, hb.1, hb.2⟩
/-- What a refused, and a granted taking leave of the cells. -/
theorem take_refused {m : Mt} (n : Int) (h0 : 0 ≤ n) (h : m.cells - m.used < n) : ∃ m', m.take n = (m', false) ∧ m'.used = m.used := by
  unfold Mt.take
  rw [if_neg (by omega), if_pos (by omega)]
  refine ⟨_, rfl, ?_⟩
  unfold Mt.refuse; split <;> rfl
theorem take_granted {m : Mt} (n : Int) (h0 : 0 ≤ n) (h : n ≤ m.cells - m.used) : ∃ m', m.take n = (m', true) ∧ m'.used = m.used + n := by
  unfold Mt.take
  rw [if_neg (by omega), if_neg (by omega)]
  exact ⟨_, rfl, rfl⟩
theorem give_granted {m : Mt} (n : Int) (h0 : 0 ≤ n) (h : n ≤ m.used) : ∃ m', m.give n = (m', true) ∧ m'.used = m.used - n := by
  unfold Mt.give
  rw [if_neg (by omega)]
  exact ⟨_, rfl, rfl⟩
set_option maxHeartbeats 2000000 in
set_option maxRecDepth 100000 in
theorem smeter_c (cells n : Int) (hw : (Lit.int .i64 n).wf = true) (w : World) : Calls Try.prog 7 #[.int .i64 cells, .int .i64 n] w fun e w' => e = .returned (.bool true) ∧ Below w.heap.size w w' := by
  obtain ⟨mok, mu, mc0, mc1⟩ := m_new cells
  by_cases hbig : 65536 < n
  · have t1 : decide (65536 < n) = true := by simpa using hbig
    clear hbig
    go_enter Try.func7, Try.ntmps7
    go_wp2_with fail
    refine (awake_c _).mono ?_; rintro e w1 ⟨rfl, h1⟩
    have H1 := Lib.hid h1
    clear h1
    go_wp2_with fail
    refine (awake_c _).mono ?_; rintro e w2 ⟨rfl, h2⟩
    have H2 := Lib.hid (below_step H1.out h2)
    clear h2
    go_wp2_with fail
    go_ret
    exact ⟨rfl, H2.out⟩
  · have t1 : decide (65536 < n) = false := by simpa using hbig
    have hmt : ∀ x : World, MtAt (x.alloc (.cells (Mt.new cells 0).cs 56)) x.heap.size (Mt.new cells 0) := fun x => Blk.made _ _ _
    have HMT := Lib.hid hmt
    clear hmt
    by_cases hneg : n < 0
    · have t2 : decide (n < 0) = true := by simpa using hneg
      have HN := Lib.hid hneg
      have MU := Lib.hid mu
      clear hneg hbig mu mok mc0 mc1
      go_enter Try.func7, Try.ntmps7
      go_wp2_with fail
      refine (awake_c _).mono ?_; rintro e w1 ⟨rfl, h1⟩
      have H1 := Lib.hid h1
      clear h1
      go_wp2_with fail
      refine (new_c cells 0 _).mono ?_; rintro e w2 ⟨rfl, rfl⟩
      have M1 := HMT.out w1
      have H2 := Lib.hid (below_alloc H1.out (.cells (Mt.new cells 0).cs 56))
      generalize w1.heap.size = b at *
      generalize w1.alloc (.cells (Mt.new cells 0).cs 56) = w2 at *
      have HM1 := Lib.hid M1
      clear M1
      go_wp2_with fail
      refine (cells_c (Mt.new cells 0) _ _ HM1.out).mono ?_; rintro e w3 ⟨rfl, rfl⟩
      have HM2 := Lib.hid HM1.out.drew
      have H3 := Lib.hid (below_draws H2.out 1)
      go_wp2_with fail
      refine (snew_arg _ n (.inl HN.out) _).mono ?_; rintro e w4 ⟨rfl, rfl⟩
      go_wp2_with fail
      refine (cells_c (Mt.new cells 0) _ _ HM2.out).mono ?_; rintro e w4 ⟨rfl, rfl⟩
      rw [MU.out]
      go_wp2_with fail
      go_ret
      exact ⟨rfl, below_draws H3.out 1⟩
    · have hn0 : 0 ≤ n := by omega
      obtain ⟨k, rfl⟩ : ∃ k : Nat, n = k := ⟨n.toNat, by omega⟩
      have t2 : decide ((k : Int) < 0) = false := by simp
      by_cases hq : (Mt.new cells 0).cells < 2 * (k : Int)
      · have t3 : decide ((Mt.new cells 0).cells < 2 * (k : Int)) = true := by simpa using hq
        obtain ⟨m', hr, hu⟩ := take_refused (m := Mt.new cells 0) (2 * (k : Int)) (by omega) (by omega)
        have SN := Lib.hid (fun (b : Nat) (w1 : World) (h : MtAt w1 b (Mt.new cells 0)) => snew_no k (by omega) _ m' mok hr b w1 h)
        have MU := Lib.hid (hu.trans mu)
        have hk : k ≤ 65536 := by omega
        clear hneg hbig mu mok hr hu hq hn0 hw
        go_enter Try.func7, Try.ntmps7
        go_wp2_with fail
        refine (awake_c _).mono ?_; rintro e w1 ⟨rfl, h1⟩
        have H1 := Lib.hid h1
        clear h1
        go_wp2_with fail
        refine (new_c cells 0 _).mono ?_; rintro e w2 ⟨rfl, rfl⟩
        have M1 := HMT.out w1
        have hb := H1.out.size
        have H2 := Lib.hid (below_alloc H1.out (.cells (Mt.new cells 0).cs 56))
        generalize w1.heap.size = b at *
        generalize w1.alloc (.cells (Mt.new cells 0).cs 56) = w2 at *
        have HM1 := Lib.hid M1
        clear M1
        go_wp2_with fail
        refine (cells_c (Mt.new cells 0) _ _ HM1.out).mono ?_; rintro e w3 ⟨rfl, rfl⟩
        have HM2 := Lib.hid HM1.out.drew
        have H3 := Lib.hid (below_draws H2.out 1)
        go_wp2_with fail
        refine (SN.out _ _ HM2.out).mono ?_; rintro e w4 ⟨rfl, h4, h5⟩
        have HM4 := Lib.hid h4
        have H4 := Lib.hid (show Below w.heap.size w w4 from ((Only.ofBelow [b] H3.out).trans h5).below (fun x hx => by simp at hx; omega))
        clear h4 h5
        go_wp2_with fail
        refine (cells_c m' _ _ HM4.out).mono ?_; rintro e w5 ⟨rfl, rfl⟩
        rw [MU.out]
        go_wp2_with fail
        go_ret
        exact ⟨rfl, below_draws H4.out 1⟩
      · have t3 : decide ((Mt.new cells 0).cells < 2 * (k : Int)) = false := by simpa using hq
        obtain ⟨m', hr, hu⟩ := take_granted (m := Mt.new cells 0) (2 * (k : Int)) (by omega) (by omega)
        have m'ok : m'.ok := by have := Mt.take_ok mok (2 * (k : Int)); rw [hr] at this; exact this
        obtain ⟨m2, hr2, hu2⟩ := give_granted (m := m') (2 * (k : Int)) (by omega) (by omega)
        have m2ok : m2.ok := by have := Mt.give_ok m'ok (2 * (k : Int)); rw [hr2] at this; exact this
        obtain ⟨m3, hr3, hu3⟩ := give_granted (m := m2) 0 (by omega) (by omega)
        have hk : k ≤ 65536 := by omega
        have SN := Lib.hid (fun (b : Nat) (w1 : World) (h : MtAt w1 b (Mt.new cells 0)) => snew_yes k hk _ m' mok hr b w1 h)
        have AD := Lib.hid (fun (g r : Nat) (w1 : World) (h : SpAt w1 g r (Sp.new k)) => sadd_c (Sp.new k) (Sp.new_ok hk) 0 g r w1 h)
        have sok : ((Sp.new k).add 0).ok := Sp.add_ok (Sp.new_ok hk) 0
        have sn : ((Sp.new k).add 0).n = k := Sp.add_n _ _
        have DR := Lib.hid (fun (g r b : Nat) (w1 : World) (h : SpAt w1 g r ((Sp.new k).add 0)) (h' : MtAt w1 b m') (hne : g ≠ b) => sdrop_c _ sok g r m' m2 true m'ok (by rw [sn]; exact hr2) b w1 h h' hne)
        have DG := Lib.hid (fun (g b : Nat) (w1 : World) (h : Gone w1 g) (h' : MtAt w1 b m2) (hne : g ≠ b) => gdrop_c g m2 m3 true m2ok hr3 b w1 h h' hne)
        have MU := Lib.hid (show m'.used = 2 * (k : Int) by omega)
        have MV := Lib.hid (show m3.used = 0 by omega)
        clear hneg hbig mu mok hr hu hq hn0 hw hr2 hu2 hr3 hu3 m'ok m2ok sok sn
        go_enter Try.func7, Try.ntmps7
        go_wp2_with fail
        refine (awake_c _).mono ?_; rintro e w1 ⟨rfl, h1⟩
        have H1 := Lib.hid h1
        clear h1
        go_wp2_with fail
        refine (new_c cells 0 _).mono ?_; rintro e w2 ⟨rfl, rfl⟩
        have M1 := HMT.out w1
        have hb := H1.out.size
        have hlt := M1.lt
        have H2 := Lib.hid (below_alloc H1.out (.cells (Mt.new cells 0).cs 56))
        generalize w1.heap.size = b at *
        generalize w1.alloc (.cells (Mt.new cells 0).cs 56) = w2 at *
        have HM1 := Lib.hid M1
        clear M1
        go_wp2_with fail
        refine (cells_c (Mt.new cells 0) _ _ HM1.out).mono ?_; rintro e w3 ⟨rfl, rfl⟩
        have HM2 := Lib.hid HM1.out.drew
        have H3 := Lib.hid (below_draws H2.out 1)
        go_wp2_with fail
        refine (SN.out _ _ HM2.out).mono ?_; rintro e w4 ⟨g, r, rfl, h1, h2, h3, h4, h5⟩
        have hbr : b < r := Nat.lt_of_lt_of_le hlt h2
        have HM4 := Lib.hid h4
        have HS4 := Lib.hid (show Has w w4 g r (Sp.new k) from ⟨h1, Sp.new_ok hk, by omega, by omega, ((Only.ofBelow [b] H3.out).trans h5).below (fun x hx => by simp at hx; omega)⟩)
        clear h1 h2 h4 h5
        go_wp2_with fail
        refine (cells_c m' _ _ HM4.out).mono ?_; rintro e w5 ⟨rfl, rfl⟩
        have HM5 := Lib.hid HM4.out.drew
        have HS5 := Lib.hid (HS4.out.drewN 1)
        rw [MU.out]
        go_wp2_with fail
        refine (AD.out g r _ HS5.out.set).mono ?_; rintro e w6 ⟨rfl, h6, h7⟩
        have HM6 := Lib.hid (show MtAt w6 b m' from Blk.only HM5.out h7 (by simp; omega))
        have HS6 := Lib.hid (HS5.out.only h6 (Sp.add_ok (Sp.new_ok hk) 0) h7)
        clear h6 h7
        go_wp2_with fail
        refine (DR.out g r b _ HS6.out.set HM6.out (by omega)).mono ?_; rintro e w7 ⟨rfl, h6, h7, h8⟩
        have HG7 := Lib.hid h6
        have HM7 := Lib.hid h7
        have HB7 := Lib.hid (show Below w.heap.size w w7 from ((Only.ofBelow [g, b] HS6.out.bel).trans h8).below (fun x hx => by simp at hx; have := HS6.out.hg; omega))
        have hgw := HS6.out.hg
        clear h6 h7 h8
        go_wp2_with fail
        refine (DG.out g b _ HG7.out HM7.out (by omega)).mono ?_; rintro e w8 ⟨rfl, h6, h7, h8⟩
        have HG8 := Lib.hid h6
        have HM8 := Lib.hid h7
        have HB8 := Lib.hid (show Below w.heap.size w w8 from ((Only.ofBelow [g, b] HB7.out).trans h8).below (fun x hx => by simp at hx; omega))
        clear h6 h7 h8
        go_wp2_with fail
        refine (cells_c m3 _ _ HM8.out).mono ?_; rintro e w9 ⟨rfl, rfl⟩
        rw [MV.out]
        have HG9 := Lib.hid (show Gone w8.drew g from HG8.out)
        go_wp2_with fail
        refine (glen_c g _ HG9.out).mono ?_; rintro e w9 ⟨rfl, rfl⟩
        go_wp2_with fail
        refine (gadd_c g _ HG9.out).mono ?_; rintro e w9 ⟨rfl, rfl⟩
        go_wp2_with fail
        refine (ghas_c g _ HG9.out).mono ?_; rintro e w9 ⟨rfl, rfl⟩
        go_wp2_with fail
        go_ret
        exact ⟨rfl, below_draws HB8.out 1⟩
end Go.Proofs.Ytnlepdffhgikdaa
