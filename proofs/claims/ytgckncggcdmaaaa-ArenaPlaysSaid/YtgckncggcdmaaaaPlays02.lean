/- The walk of ArenaPlays. -/
import Derived.Test.YtgckncggcdmaaaaPlPure
namespace Go.Proofs.Ytgckncggcdmaaaa
open Go.RowKit Go.Maps
section
variable {w wr W' : World} {g c b gm h d B : Nat} {A A' : Ar} {m m' : Mt} {l l' : List Rg} {Lv Lv' : Value}
theorem PlS.next (q : PlS w g c b gm h d B A m l Lv wr) (a : Ars w g c b (some gm) A' (some m') W') (r : RefAt W' B h d A' l' m.cells Lv') (hu : m'.used = A'.used) (hc : m'.cells = m.cells) (hs : wr.heap.size ≤ W'.heap.size) : PlS w g c b gm h d B A' m' l' Lv' W' :=
  ⟨a, by rw [hc]; exact r, hu, q.lt, q.ne, Nat.le_trans q.size hs, q.lo, by rw [hc]; exact q.most⟩
theorem PlS.bounds (q : PlS w g c b gm h d B A m l Lv wr) : ∀ r ∈ l, r.b + r.n ≤ 1048576 := fun r hr => by
  have := q.ar.ok.each r (q.rf.perm.mem_iff.2 hr)
  have := q.ar.ok.size
  omega
theorem RefAt.set {w : World} {most : Int} (q : RefAt w B h d A l most Lv) (i : Nat) (v : Int) : RefAt (w.setCell ⟨d, i, none⟩ (.int .i64 v)) B h d (A.set i v) l most Lv := by
  have hdo : Lv.ownBlock ≠ some d := fun e => by have := (q.own.lt d e).1; have := q.lt; omega
  refine ⟨q.head.far (p := ⟨d, i, none⟩) q.hd _, own_off q.own (S := [d]) ((Only.refl _ _).set (p := ⟨d, i, none⟩) (.inl (by simp)) _) (by intro x hx; simp at hx; subst hx; exact hdo), (q.rows.set i (.int .i64 v)).cast ?_, q.perm, q.hd, q.lt⟩
  unfold ints Ar.set
  simp [List.map_set]
theorem setCell_only {w : World} (p : Addr) (v : Value) : Only [p.block] w (w.setCell p v) := (Only.refl _ _).set (.inl (by simp)) v
end
set_option maxHeartbeats 1000000 in
set_option maxRecDepth 100000 in
theorem plays_big (n cl : Int) (A1 : Option Addr) (len1 cap1 : Nat) (h : longB n len1 = true) (w : World) : Calls Try.prog 7 #[.int .i64 n, .int .i64 cl, .slice A1 len1 cap1] w fun e w' => e = .returned (.bool true) ∧ Below w.heap.size w w' := by
  have L1 := fun w => long_c n A1 len1 cap1 w
  rw [h] at L1
  have L1' := Lib.hid L1
  clear h L1
  go_enter Try.func7, Try.ntmps7
  go_wp2_with fail
  refine (awake_c _).mono ?_
  rintro e w1 ⟨rfl, h1⟩
  have H1 := Lib.hid h1
  clear h1
  go_wp2_with fail
  refine (L1'.out _).mono ?_
  rintro e w2 ⟨rfl, rfl⟩
  go_wp2_with fail
  refine (awake_c _).mono ?_
  rintro e w2 ⟨rfl, h2⟩
  have H2 := Lib.hid (below_step H1.out h2)
  clear h2
  go_wp2_with fail
  go_ret
  exact ⟨rfl, H2.out⟩
set_option maxHeartbeats 16000000 in
set_option maxRecDepth 100000 in
theorem plays_main (n cl : Int) (A1 : Option Addr) (len1 cap1 : Nat) (X1 : Nat → Nat → Int) (w : World) (hb1 : longB n len1 = false)
    (hS1 : 0 < len1 → ∃ b o, A1 = some ⟨b, o, none⟩ ∧ b < w.heap.size ∧ ∀ i, i < len1 → ∀ j, j < 4 → w.cell? ⟨b, o + (i * 4 + j), none⟩ = some (.int .i64 (X1 i j)))
    (hX1 : ∀ i, i < len1 → ∀ j, j < 4 → (Lit.int .i64 (X1 i j)).wf = true) :
    Calls Try.prog 7 #[.int .i64 n, .int .i64 cl, .slice A1 len1 cap1] w fun e w' => e = .returned (.bool true) ∧ Below w.heap.size w w' := by
  have L1 := fun w => long_c n A1 len1 cap1 w
  rw [hb1] at L1
  have L1' := Lib.hid L1
  have hl1 : len1 ≤ 200 := by unfold longB at hb1; simp at hb1; omega
  have C1 := Lib.hid hS1
  have X1W := Lib.hid hX1
  clear L1 hb1 hS1 hX1
  go_enter Try.func7, Try.ntmps7
  go_wp2_with fail
  refine (awake_c _).mono ?_
  rintro e w1 ⟨rfl, h1⟩
  have H1 := Lib.hid h1
  clear h1
  go_wp2_with fail
  refine (L1'.out _).mono ?_
  rintro e w2 ⟨rfl, rfl⟩
  go_wp2_with fail
  refine (new_c cl 0 w1).mono ?_
  rintro e w2 ⟨rfl, hw2⟩
  have M2 : MtAt w2 w1.heap.size (Mt.new cl 0) := by rw [hw2]; exact Blk.made _ _ _
  have B2 : Below w.heap.size w w2 := by rw [hw2]; exact below_alloc H1.out _
  have M2' := Lib.hid M2
  have B2' := Lib.hid B2
  have hgm := H1.out.size
  clear hw2 B2 M2
  generalize w1.heap.size = gm at *
  go_wp2_with fail
  refine (cells_c (Mt.new cl 0) gm w2 M2'.out).mono ?_
  rintro e w3 ⟨rfl, rfl⟩
  have M3 := Lib.hid (show MoAt w2.drew (some gm) (some (Mt.new cl 0)) from ⟨M2'.out, Mt.new_ok cl 0⟩)
  have B3 := Lib.hid (show Below w.heap.size w w2.drew from below_draws B2'.out 1)
  have MO := Lib.hid (Mt.new_ok cl 0)
  have MU : Hid ((Mt.new cl 0).used = 0) := Lib.hid rfl
  have MC : Hid (0 ≤ (Mt.new cl 0).cells ∧ (Mt.new cl 0).cells ≤ 1048576) := Lib.hid (betw_bd cl (by omega))
  generalize Mt.new cl 0 = m0 at *
  generalize w2.drew = w3 at *
  clear M2' B2'
  go_wp2_with fail
  refine (arnew_a (w := w) (some gm) (some m0) n w3 B3.out M3.out (fun x e => by cases e; exact hgm)).mono ?_
  rintro e w4 ⟨g, c, b, rfl, m1, m2, m3, a4, k4⟩
  have I4 := Lib.hid a4
  have K4 := Lib.hid k4
  have N4 := Lib.hid (show gm < w3.heap.size from Blk.lt M3.out.1)
  have Q4 := Lib.hid (And.intro m1 (And.intro m2 m3))
  clear a4 k4 m1 m2 m3
  go_wp2_with fail
  refine (rnew_c2 n m0.cells w4).mono ?_
  rintro e w5 ⟨d, rfl, hD, hd, k5⟩
  have D5 := Lib.hid hD
  have I5 := Lib.hid (I4.out.later k5)
  have s5 := k5.size
  have s4 := K4.out.size
  have hlt5 : g < w4.heap.size ∧ c < w4.heap.size ∧ b < w4.heap.size := ⟨I4.out.ar.head.lt, I4.out.ar.rows.lt, I4.out.ar.map.lt⟩
  have hdl : d < w5.heap.size := hD.lt
  have hgml := N4.out
  have S0 := Lib.hid (show PlS w g c b gm w5.heap.size d (w5.heap.size + 1) (Ar.new (szAr n)) m0 [] (.slice none 0 0) (w5.alloc (.cells #[.int .i64 (szAr n), .slice none 0 0, .slice (some ⟨d, 0, none⟩) (szAr n) (szAr n), .int .i64 0, .int .i64 0, .int .i64 m0.cells] 49)) from by
    have hs3 := B3.out.size
    exact ⟨I5.out.later (below_alloc (Below.refl _ _) _), ⟨Blk.made _ _ _, World.ownsRow_nil _ _ _ _, hD.alloc _, List.Perm.refl _, by omega, by omega⟩, by rw [MU.out]; rfl, by omega, by omega, by simp, by omega, MC.out⟩)
  have hwB : w.heap.size ≤ w5.heap.size + 1 := by have := B3.out.size; omega
  clear hD k5 hd
  generalize hw6 : w5.alloc (.cells #[.int .i64 (szAr n), .slice none 0 0, .slice (some ⟨d, 0, none⟩) (szAr n) (szAr n), .int .i64 0, .int .i64 0, .int .i64 m0.cells] 49) = w6 at *
  go_upto_region 6 with fail
  clear hw6
  generalize hh : w5.heap.size = h at *
  generalize hB : h + 1 = B at *
  clear hh I4 I5 D5 K4 N4 Q4 M3 B3 MO MU MC
  have hsB : h < B := by omega
  have hsd := Lib.hid (show d < B from by omega)
  clear hB s5 s4 hlt5 hdl hgml hgm
  go_wp2_with fail
  go_loopw [54] (fun i wr => ∃ (k : Nat) (A : Ar) (m : Mt) (l : List Rg) (Lv : Value), k ≤ len1 ∧ i = .int .i64 k ∧ PlS w g c b gm h d B A m l Lv wr ∧ A.last ≤ k ∧ l.length ≤ k) (fun i _ => len1 - (intOf i).toNat)
  case atStart => exact ⟨0, _, _, _, _, by omega, rfl, S0.out, Nat.zero_le _, Nat.zero_le _⟩
  case round =>
    obtain ⟨k, A, m, l, Lv, hk, rfl, hS, hA0, hl0⟩ := hrel
    have P1 := Lib.hid hS
    clear hS
    by_cases hlt : k < len1
    · obtain ⟨bo, oo, rfl, hbo, hcell⟩ := C1.out (by omega)
      have d0 : wr.cell? ⟨bo, oo + k * 4, none⟩ = some (.int .i64 (X1 k 0)) := (P1.out.ar.below.cell (p := ⟨bo, _, none⟩) hbo).trans (hcell k hlt 0 (by omega))
      have d1 : wr.cell? ⟨bo, oo + k * 4 + 1, none⟩ = some (.int .i64 (X1 k 1)) := (P1.out.ar.below.cell (p := ⟨bo, _, none⟩) hbo).trans (hcell k hlt 1 (by omega))
      have d2 : wr.cell? ⟨bo, oo + k * 4 + 2, none⟩ = some (.int .i64 (X1 k 2)) := (P1.out.ar.below.cell (p := ⟨bo, _, none⟩) hbo).trans (hcell k hlt 2 (by omega))
      have d3 : wr.cell? ⟨bo, oo + k * 4 + 3, none⟩ = some (.int .i64 (X1 k 3)) := (P1.out.ar.below.cell (p := ⟨bo, _, none⟩) hbo).trans (hcell k hlt 3 (by omega))
      have W1 := Lib.hid (X1W.out k hlt 1 (by omega))
      have W2 := Lib.hid (X1W.out k hlt 2 (by omega))
      have W3 := Lib.hid (X1W.out k hlt 3 (by omega))
      have t0 : decide (k < len1) = true := by simp; omega
      have t2 : (k : Int) < (len1 : Nat) := by omega
      clear hcell
      go_upto_region 9 with fail
      have B2 := Lib.hid (Blk.made wr 28 #[.int .i64 (X1 k 0), .int .i64 (X1 k 1), .int .i64 (X1 k 2), .int .i64 (X1 k 3)])
      have P2 := Lib.hid (P1.out.below (below_alloc (Below.refl _ wr) (.cells #[.int .i64 (X1 k 0), .int .i64 (X1 k 1), .int .i64 (X1 k 2), .int .i64 (X1 k 3)] 28)))
      have s4 := P1.out.size
      have HOB : Hid (∀ x, Lv.ownBlock = some x → x < wr.heap.size) := Lib.hid (fun x e => (P1.out.rf.own.lt x e).2)
      clear d0 d1 d2 d3 P1
      generalize wr.alloc (.cells #[.int .i64 (X1 k 0), .int .i64 (X1 k 1), .int .i64 (X1 k 2), .int .i64 (X1 k 3)] 28) = x2 at *
      generalize wr.heap.size = bx at *
      generalize X1 k 0 = kd at *
      generalize X1 k 1 = xid at *
      generalize X1 k 2 = xn at *
      generalize X1 k 3 = xv at *
      have f0 := B2.out.cell 0
      have f1 := B2.out.cell 1
      have f2 := B2.out.cell 2
      have f3 := B2.out.cell 3
      simp at f0 f1 f2 f3
      have hbx2 : bx < x2.heap.size := B2.out.lt
      have plt := P2.out.lt
      have HF := Lib.hid (fun (W : World) (hO : Only ([g, c, b] ++ (some gm).toList) x2 W) (j : Nat) => hO.cell (p := ⟨bx, j, none⟩) hbx2 (by simp; omega))
      go_upto_block 2 with fail
      go_cut [15, 16, 17, 18, 19, 20, 21, 22, 23, 24] from 60 to 177 (fun _ _ _ _ _ _ _ _ _ _ wx => ∃ (A' : Ar) (m' : Mt) (l' : List Rg) (Lv' : Value), PlS w g c b gm h d B A' m' l' Lv' wx ∧ A'.last ≤ k + 1 ∧ l'.length ≤ k + 1)
      case first =>
        by_cases h1 : kd = 1
        · as_aux_lemma =>
          subst h1
          by_cases hn1 : xn < 1
          · have e2 : allocF A (some m) xn = ((A, some m), (0, 1)) := by unfold allocF; rw [if_pos hn1]
            go_wp2_with fail
            refine (alloc_o P2.out.ar (by omega) xn (wf_le W2.out)).mono ?_
            rintro e y3 ⟨rfl, hA, hO⟩
            rw [e2] at hA ⊢
            have P3 := Lib.hid (P2.out.next hA (P2.out.refKept hO) P2.out.used rfl hO.size)
            have f2' := (HF.out _ hO 2).trans f2
            clear hA hO e2 P2 B2
            go_wp2_with fail
            refine (ralloc_arg _ xn hn1 y3).mono ?_
            rintro e y4 ⟨rfl, rfl⟩
            go_wp2_with fail
            go_meet
            exact ⟨_, _, _, _, P3.out, by omega, by omega⟩
          · obtain ⟨n, rfl⟩ : ∃ q : Nat, xn = q := ⟨xn.toNat, by omega⟩
            have wn := wf_le W2.out
            rcases allocF_meter P2.out.used (n := n) (by omega) with ⟨base, hg, hq, e2, u2, c2⟩ | ⟨hno, m', e2, u2, c2⟩
            · have HG := Lib.hid hg
              have HQ := Lib.hid hq
              have HU := Lib.hid (And.intro u2 c2)
              clear hg hq u2 c2
              go_wp2_with fail
              refine (alloc_o P2.out.ar (by omega) (n : Int) (wf_le W2.out)).mono ?_
              rintro e y3 ⟨rfl, hA, hO⟩
              rw [e2] at hA ⊢
              have R3 := Lib.hid (P2.out.refKept hO)
              have A3 := Lib.hid hA
              have f2' := (HF.out _ hO 2).trans f2
              have sz3 := hO.size
              clear hA hO e2
              go_wp2_with fail
              refine (ralloc_c A P2.out.ar.ok l (by omega) (by omega) n (by omega) (by omega) B h d m.cells P2.out.most.1 P2.out.most.2 Lv y3 (Nat.le_trans P2.out.size sz3) R3.out).mono ?_
              rintro e y4 (⟨hno, rfl, k4⟩ | ⟨base', hg', hq', rfl, Lv', r4, o4⟩)
              · exfalso
                rcases hno with hno | hno
                · rw [HG.out] at hno; cases hno
                · have := HQ.out; omega
              · obtain rfl : base = base' := by have := HG.out.symm.trans hg'; injection this
                have A4 := PlS.arKept (m' := m) A3.out R3.out P2.out.lt P2.out.ne P2.out.lo o4 hwB
                have P4 := Lib.hid (P2.out.next A4 r4 (by rw [HU.out.1, used_alloc]; push_cast; rfl) HU.out.2 (Nat.le_trans sz3 o4.size))
                clear r4 o4 A4 hg' hq'
                go_wp2_with fail
                go_meet
                exact ⟨_, _, _, _, P4.out, by show A.last + 1 ≤ k + 1; omega, by simp; omega⟩
            · have HU := Lib.hid (And.intro u2 c2)
              have HN := Lib.hid hno
              clear u2 c2 hno
              go_wp2_with fail
              refine (alloc_o P2.out.ar (by omega) (n : Int) (wf_le W2.out)).mono ?_
              rintro e y3 ⟨rfl, hA, hO⟩
              rw [e2] at hA ⊢
              have R3 := Lib.hid (P2.out.refKept hO)
              have A3 := Lib.hid hA
              have f2' := (HF.out _ hO 2).trans f2
              have sz3 := hO.size
              clear hA hO e2
              go_wp2_with fail
              refine (ralloc_c A P2.out.ar.ok l (by omega) (by omega) n (by omega) (by omega) B h d m.cells P2.out.most.1 P2.out.most.2 Lv y3 (Nat.le_trans P2.out.size sz3) R3.out).mono ?_
              rintro e y4 (⟨hno, rfl, k4⟩ | ⟨base', hg', hq', rfl, Lv', r4, o4⟩)
              · have P4 := Lib.hid (P2.out.next (A3.out.later k4) (R3.out.below k4) HU.out.1 HU.out.2 (Nat.le_trans sz3 k4.size))
                clear k4 hno
                go_wp2_with fail
                go_meet
                exact ⟨_, _, _, _, P4.out, by omega, by omega⟩
              · exfalso
                rcases HN.out with hno | hno
                · rw [hg'] at hno; cases hno
                · omega
        · have t3 : (kd == 1) = false := by simpa using h1
          by_cases h2 : kd = 2
          · as_aux_lemma =>
            subst h2
            have LB := Lib.hid hl0
            have P2' := Lib.hid (show PlS w g c b gm h d B A m l Lv x2.drew from P2.out.below (below_draws (Below.refl _ _) 1))
            have B2' := Lib.hid (show Blk x2.drew bx 28 #[.int .i64 2, .int .i64 xid, .int .i64 xn, .int .i64 xv] from B2.out)
            clear P2 B2 HF
            have P2 := P2'
            have B2 := B2'
            clear P2' B2'
            cases hi : idxOf l xid with
            | none =>
              as_aux_lemma =>
              have HI := Lib.hid hi
              have E2 : Hid (freeF A (some m) xid = ((A, some m), 7)) := Lib.hid (by unfold freeF; rw [find_perm_none P2.out.rf.perm hi])
              clear hi
              go_upto_region 16 with fail
              refine wp_region_held_drew (S := fun w' => Blk w' bx 28 #[.int .i64 2, .int .i64 xid, .int .i64 xn, .int .i64 xv]) (by kernel_rfl) B2.out (fun hHeld => ?_)
              clear f0 f1 f2 f3
              generalize x2.drew = x2 at *
              refine' wpAnyH_take (i := 0) (v := _) rfl (by kernel_rfl) (by kernel_rfl) (by kernel_rfl) (fun _ _ _ h => h) (Or.inl ⟨by kernel_rfl, ?hy0n⟩) (by assumption) ?r0n
              case hy0n => (intro w hSw; (try dsimp only at hSw); go_simp; with_reducible rfl)
              try simp only [Act.put]
              refine' wpAnyH_take (i := 1) (v := _) rfl (by kernel_rfl) (by kernel_rfl) (by kernel_rfl) (fun _ _ _ h => h) (Or.inl ⟨by kernel_rfl, ?hy1n⟩) (by assumption) ?r1n
              case hy1n => (intro w hSw; (try dsimp only at hSw); go_simp; with_reducible rfl)
              try simp only [Act.put]
              refine' wpAnyH_take (i := 2) (v := _) rfl (by kernel_rfl) (by kernel_rfl) (by kernel_rfl) (fun _ _ _ h => h) (Or.inl ⟨by kernel_rfl, ?hy2n⟩) (by assumption) ?r2n
              case hy2n => (intro w hSw; have q1 := Blk.cell hSw 1; simp at q1; go_simp; with_reducible rfl)
              try simp only [Act.put]
              refine' wpAnyH_take (i := 4) (v := _) rfl (by kernel_rfl) (by kernel_rfl) (by kernel_rfl) (fun _ _ _ h => h) (Or.inl ⟨by kernel_rfl, ?hy4n⟩) (by assumption) ?r4n
              case hy4n => (intro w hSw; (try dsimp only at hSw); go_simp; with_reducible rfl)
              try simp only [Act.put]
              refine' wpAnyH_take (i := 5) (v := _) rfl (by kernel_rfl) (by kernel_rfl) (by kernel_rfl) (fun _ _ _ h => h) (Or.inl ⟨by kernel_rfl, ?hy5n⟩) (by assumption) ?r5n
              case hy5n => (intro w hSw; have q1 := Blk.cell hSw 1; simp at q1; go_simp; with_reducible rfl)
              try simp only [Act.put]
              refine wpAnyH_ready (rs := [3]) (by kernel_rfl) (by simp) (AllReadyH.cons rfl (fun K' hK => ?_) AllReadyH.nil)
              go_simp
              refine (free_o P2.out.ar xid W1.out).mono ?_
              rintro e y3 ⟨rfl, hA, hO⟩
              rw [E2.out] at hA ⊢
              have R3 := Lib.hid (P2.out.refKept hO)
              have A3 := Lib.hid hA
              have B3 := Lib.hid (B2.out.only hO (by simp; omega))
              have sz3 := hO.size
              clear hA hO
              refine hK.out _ _ B3.out (fun hHeld => ?_)
              clear hK K'
              refine wpAnyH_ready (rs := [6]) (by kernel_rfl) (by simp) (AllReadyH.cons rfl (fun K' hK => ?_) AllReadyH.nil)
              go_simp
              refine (rfree_no A l (by have := P2.out.len_le; have := LB.out; omega) xid B h d m.cells y3 Lv R3.out HI.out).mono ?_
              rintro e y4 ⟨rfl, rfl⟩
              refine hK.out _ _ B3.out (fun hHeld => ?_)
              clear hK K'
              refine' wpAnyH_take (i := 7) (v := _) rfl (by kernel_rfl) (by kernel_rfl) (by kernel_rfl) (fun _ _ _ h => h) (Or.inl ⟨by kernel_rfl, ?hy7n⟩) (by assumption) ?r7n
              case hy7n => (intro w hSw; (try dsimp only at hSw); go_simp; with_reducible rfl)
              try simp only [Act.put]
              clear hHeld
              refine wpAnyH_done (by kernel_rfl) ?_ _
              go_wp2_with fail
              go_meet
              exact ⟨_, _, _, _, ⟨A3.out, R3.out, P2.out.used, P2.out.lt, P2.out.ne, Nat.le_trans P2.out.size sz3, P2.out.lo, P2.out.most⟩, by omega, by omega⟩
            | some kk =>
              as_aux_lemma =>
              have HI := Lib.hid hi
              obtain ⟨hkk, hf⟩ := find_perm P2.out.ar.ok P2.out.rf.perm hi
              have E2 : Hid (freeF A (some m) xid = ((A.free l[kk], some (m.give l[kk].n).1), 0)) := Lib.hid (by unfold freeF; rw [hf]; rfl)
              have GM := Lib.hid (give_meter P2.out.ar.ok P2.out.used (P2.out.rf.perm.mem_iff.2 (List.getElem_mem hkk)))
              clear hi hf
              go_upto_region 16 with fail
              refine wp_region_held_drew (S := fun w' => Blk w' bx 28 #[.int .i64 2, .int .i64 xid, .int .i64 xn, .int .i64 xv]) (by kernel_rfl) B2.out (fun hHeld => ?_)
              clear f0 f1 f2 f3
              generalize x2.drew = x2 at *
              refine' wpAnyH_take (i := 0) (v := _) rfl (by kernel_rfl) (by kernel_rfl) (by kernel_rfl) (fun _ _ _ h => h) (Or.inl ⟨by kernel_rfl, ?hy0y⟩) (by assumption) ?r0y
              case hy0y => (intro w hSw; (try dsimp only at hSw); go_simp; with_reducible rfl)
              try simp only [Act.put]
              refine' wpAnyH_take (i := 1) (v := _) rfl (by kernel_rfl) (by kernel_rfl) (by kernel_rfl) (fun _ _ _ h => h) (Or.inl ⟨by kernel_rfl, ?hy1y⟩) (by assumption) ?r1y
              case hy1y => (intro w hSw; (try dsimp only at hSw); go_simp; with_reducible rfl)
              try simp only [Act.put]
              refine' wpAnyH_take (i := 2) (v := _) rfl (by kernel_rfl) (by kernel_rfl) (by kernel_rfl) (fun _ _ _ h => h) (Or.inl ⟨by kernel_rfl, ?hy2y⟩) (by assumption) ?r2y
              case hy2y => (intro w hSw; have q1 := Blk.cell hSw 1; simp at q1; go_simp; with_reducible rfl)
              try simp only [Act.put]
              refine' wpAnyH_take (i := 4) (v := _) rfl (by kernel_rfl) (by kernel_rfl) (by kernel_rfl) (fun _ _ _ h => h) (Or.inl ⟨by kernel_rfl, ?hy4y⟩) (by assumption) ?r4y
              case hy4y => (intro w hSw; (try dsimp only at hSw); go_simp; with_reducible rfl)
              try simp only [Act.put]
              refine' wpAnyH_take (i := 5) (v := _) rfl (by kernel_rfl) (by kernel_rfl) (by kernel_rfl) (fun _ _ _ h => h) (Or.inl ⟨by kernel_rfl, ?hy5y⟩) (by assumption) ?r5y
              case hy5y => (intro w hSw; have q1 := Blk.cell hSw 1; simp at q1; go_simp; with_reducible rfl)
              try simp only [Act.put]
              refine wpAnyH_ready (rs := [3]) (by kernel_rfl) (by simp) (AllReadyH.cons rfl (fun K' hK => ?_) AllReadyH.nil)
              go_simp
              refine (free_o P2.out.ar xid W1.out).mono ?_
              rintro e y3 ⟨rfl, hA, hO⟩
              rw [E2.out] at hA ⊢
              have R3 := Lib.hid (P2.out.refKept hO)
              have A3 := Lib.hid hA
              have B3 := Lib.hid (B2.out.only hO (by simp; omega))
              have sz3 := hO.size
              clear hA hO
              refine hK.out _ _ B3.out (fun hHeld => ?_)
              clear hK K'
              refine wpAnyH_ready (rs := [6]) (by kernel_rfl) (by simp) (AllReadyH.cons rfl (fun K' hK => ?_) AllReadyH.nil)
              go_simp
              refine (rfree_yes A P2.out.ar.ok l (by have := LB.out; omega) xid B h d m.cells Lv y3 R3.out kk hkk HI.out).mono ?_
              rintro e y4 ⟨rfl, Lv', r1, r2⟩
              have R4 := Lib.hid r1
              have O4 := Lib.hid r2
              have B4 := Lib.hid (B3.out.only r2 (by have := hsd.out; simp; omega))
              have sz4 := r2.size
              clear r1 r2
              refine hK.out _ _ B4.out (fun hHeld => ?_)
              clear hK K'
              refine' wpAnyH_take (i := 7) (v := _) rfl (by kernel_rfl) (by kernel_rfl) (by kernel_rfl) (fun _ _ _ h => h) (Or.inl ⟨by kernel_rfl, ?hy7y⟩) (by assumption) ?r7y
              case hy7y => (intro w hSw; (try dsimp only at hSw); go_simp; with_reducible rfl)
              try simp only [Act.put]
              clear hHeld
              refine wpAnyH_done (by kernel_rfl) ?_ _
              go_wp2_with fail
              go_meet
              have a4 := PlS.arKept (m' := m) A3.out R3.out P2.out.lt P2.out.ne P2.out.lo (O4.out.mono (by simp)) hwB
              exact ⟨_, _, _, _, ⟨a4, by rw [GM.out.2]; exact R4.out, GM.out.1, P2.out.lt, P2.out.ne, by have := P2.out.size; omega, P2.out.lo, by rw [GM.out.2]; exact P2.out.most⟩, by show A.last ≤ k + 1; omega, by rw [List.length_append, List.length_take, List.length_drop]; omega⟩
          · have t4 : (kd == 2) = false := by simpa using h2
            by_cases h3 : kd = 3
            · as_aux_lemma =>
              subst h3
              have AT := rat_c A l (by omega) P2.out.bounds P2.out.ar.ok xid xn B h d m.cells x2 Lv P2.out.rf
              by_cases hce : cellE A.rs xid xn = 0
              · obtain ⟨r, hf, hx0, hxn⟩ : ∃ r, findR A.rs xid = some r ∧ 0 ≤ xn ∧ xn < r.n := by
                  unfold cellE at hce
                  cases hf : findR A.rs xid with
                  | none => rw [hf] at hce; simp at hce
                  | some r =>
                    rw [hf] at hce
                    simp only at hce
                    by_cases hi : 0 ≤ xn ∧ xn < r.n
                    · exact ⟨r, rfl, hi⟩
                    · rw [if_neg hi] at hce; simp at hce
                obtain ⟨i, rfl⟩ : ∃ i : Nat, xn = i := ⟨xn.toNat, by omega⟩
                have e3 : setF A xid (i : Int) xv = A.set (r.b + i) xv := by unfold setF; rw [hf]; simp only; rw [if_pos ⟨hx0, hxn⟩, Int.toNat_natCast]
                have e4 : placeV A.rs xid (i : Int) = ((r.b + i : Nat) : Int) := by unfold placeV; rw [hf]; simp only; rw [if_pos ⟨hx0, hxn⟩]; push_cast; rfl
                have hre := P2.out.ar.ok.each r (findR_some hf).1
                have hin : r.b + i < A.size := by omega
                have hsz := P2.out.ar.ok.size
                have hln := P2.out.ar.ok.len
                obtain ⟨pi, hpi⟩ : ∃ pi, pi = r.b + i := ⟨_, rfl⟩
                rw [hce, e4] at AT
                rw [← hpi] at AT e3 hin
                have AT' := Lib.hid AT
                have SC := Lib.hid (set_o P2.out.ar xid (i : Int) xv W1.out)
                have FX : Hid (cellE A.rs xid (i : Int) = 0) := Lib.hid hce
                have E3 := Lib.hid e3
                clear AT e3 e4 hf hre hx0 hxn hce hpi
                go_wp2_with fail
                refine AT'.out.mono ?_
                rintro e y3 ⟨rfl, rfl⟩
                go_wp2_with fail
                refine SC.out.mono ?_
                rintro e y3 ⟨rfl, hA, hO⟩
                rw [E3.out] at hA
                rw [FX.out]
                have R3 := Lib.hid (P2.out.refKept hO)
                have A3 := Lib.hid hA
                have sz3 := hO.size
                have f3' := (HF.out _ hO 3).trans f3
                have g2 := R3.out.head.cell 2
                simp at g2
                have g3 := R3.out.rows.cell pi
                rw [show (ints A.cs).toArray[pi]? = some (.int .i64 (A.cs[pi]'(by omega))) from by unfold ints; simp] at g3
                have g4 := R3.out.rows.free pi
                have t6 : (pi : Int) < (A.size : Nat) := by omega
                have P4 := Lib.hid (P2.out.next (PlS.arKept (m' := m) A3.out R3.out P2.out.lt P2.out.ne P2.out.lo ((setCell_only ⟨d, pi, none⟩ (.int .i64 xv)).mono (by simp)) hwB) (R3.out.set pi xv) P2.out.used rfl (by simpa using sz3))
                clear hA hO
                go_wp2_with fail
                go_meet
                exact ⟨_, _, _, _, P4.out, by show A.last ≤ k + 1; omega, by omega⟩
              · have t9 : (cellE A.rs xid xn == 0) = false := by simpa using hce
                have e3 : setF A xid xn xv = A := by
                  unfold cellE at hce
                  unfold setF
                  cases hf : findR A.rs xid with
                  | none => rfl
                  | some r =>
                    rw [hf] at hce
                    simp only at hce ⊢
                    by_cases hi : 0 ≤ xn ∧ xn < r.n
                    · rw [if_pos hi] at hce; exact absurd rfl hce
                    · rw [if_neg hi]
                have AT' := Lib.hid AT
                clear AT hce
                go_wp2_with fail
                refine AT'.out.mono ?_
                rintro e y3 ⟨rfl, rfl⟩
                go_wp2_with fail
                refine (set_o P2.out.ar xid xn xv W1.out).mono ?_
                rintro e y3 ⟨rfl, hA, hO⟩
                rw [e3] at hA
                have P3 := Lib.hid (P2.out.next hA (P2.out.refKept hO) P2.out.used rfl hO.size)
                clear hA hO e3
                go_wp2_with fail
                go_meet
                exact ⟨_, _, _, _, P3.out, by omega, by omega⟩
            · have t5 : (kd == 3) = false := by simpa using h3
              by_cases h4 : kd = 4
              · as_aux_lemma =>
                subst h4
                have AT := rat_c A l (by omega) P2.out.bounds P2.out.ar.ok xid xn B h d m.cells x2 Lv P2.out.rf
                have GC := get_a P2.out.ar xid xn W1.out
                by_cases hce : cellE A.rs xid xn = 0
                · obtain ⟨r, hf, hx0, hxn⟩ : ∃ r, findR A.rs xid = some r ∧ 0 ≤ xn ∧ xn < r.n := by
                    unfold cellE at hce
                    cases hf : findR A.rs xid with
                    | none => rw [hf] at hce; simp at hce
                    | some r =>
                      rw [hf] at hce
                      simp only at hce
                      by_cases hi : 0 ≤ xn ∧ xn < r.n
                      · exact ⟨r, rfl, hi⟩
                      · rw [if_neg hi] at hce; simp at hce
                  obtain ⟨i, rfl⟩ : ∃ i : Nat, xn = i := ⟨xn.toNat, by omega⟩
                  have hre := P2.out.ar.ok.each r (findR_some hf).1
                  have hsz := P2.out.ar.ok.size
                  have hln := P2.out.ar.ok.len
                  have hin : r.b + i < A.size := by omega
                  have e4 : placeV A.rs xid (i : Int) = ((r.b + i : Nat) : Int) := by unfold placeV; rw [hf]; simp only; rw [if_pos ⟨hx0, hxn⟩]; push_cast; rfl
                  obtain ⟨pi, hpi⟩ : ∃ pi, pi = r.b + i := ⟨_, rfl⟩
                  rw [← hpi] at hin
                  have hpl : pi < A.cs.length := by omega
                  have e3 : getF A xid (i : Int) = A.cs[pi] := by unfold getF; rw [hf]; simp only; rw [if_pos ⟨hx0, hxn⟩, Int.toNat_natCast, ← hpi, List.getD_eq_getElem?_getD, List.getElem?_eq_getElem hpl]; rfl
                  rw [hce, e4, ← hpi] at AT
                  rw [hce, e3] at GC
                  have AT' := Lib.hid AT
                  have GC' := Lib.hid GC
                  have t6 : (pi : Int) < (A.size : Nat) := by omega
                  have HG3 : Hid (∀ W, RefAt W B h d A l m.cells Lv → W.cell? ⟨d, pi, none⟩ = some (.int .i64 A.cs[pi])) := Lib.hid (fun W q => by
                    rw [q.rows.cell]
                    unfold ints
                    simp [List.getElem?_eq_getElem hpl])
                  generalize A.cs[pi] = cv at *
                  clear AT GC e3 e4 hf hre hx0 hxn hce hpi
                  go_wp2_with fail
                  refine AT'.out.mono ?_
                  rintro e y3 ⟨rfl, rfl⟩
                  go_wp2_with fail
                  refine GC'.out.mono ?_
                  rintro e y3 ⟨rfl, k3⟩
                  have P3 := Lib.hid (P2.out.below k3)
                  have g2 := P3.out.rf.head.cell 2
                  simp at g2
                  have g3 := HG3.out _ P3.out.rf
                  clear k3
                  go_wp2_with fail
                  go_meet
                  exact ⟨_, _, _, _, P3.out, by omega, by omega⟩
                · have t9 : (cellE A.rs xid xn == 0) = false := by simpa using hce
                  have t10 : (cellE A.rs xid xn != 0) = true := by simpa using hce
                  have e3 : getF A xid xn = 0 := by
                    unfold cellE at hce
                    unfold getF
                    cases hf : findR A.rs xid with
                    | none => rfl
                    | some r =>
                      rw [hf] at hce
                      simp only at hce ⊢
                      by_cases hi : 0 ≤ xn ∧ xn < r.n
                      · rw [if_pos hi] at hce; exact absurd rfl hce
                      · rw [if_neg hi]
                  rw [e3] at GC
                  have AT' := Lib.hid AT
                  have GC' := Lib.hid GC
                  clear AT GC hce e3
                  go_wp2_with fail
                  refine AT'.out.mono ?_
                  rintro e y3 ⟨rfl, rfl⟩
                  go_wp2_with fail
                  refine GC'.out.mono ?_
                  rintro e y3 ⟨rfl, k3⟩
                  have P3 := Lib.hid (P2.out.below k3)
                  clear k3
                  go_wp2_with fail
                  go_meet
                  exact ⟨_, _, _, _, P3.out, by omega, by omega⟩
              · have t6 : (kd == 4) = false := by simpa using h4
                by_cases h5 : kd = 5
                · as_aux_lemma =>
                  subst h5
                  go_wp2_with fail
                  refine (wipe_a P2.out.ar (by rintro _ ⟨⟩; rw [P2.out.used]; exact Int.le_refl _)).mono ?_
                  rintro e y3 ⟨rfl, A', hBA, hA, hO⟩
                  have HBA := Lib.hid hBA
                  have A3 := Lib.hid (show Ars w g c b (some gm) A' (some { m with used := m.used - A.used }) y3 from hA)
                  have R3 := Lib.hid (P2.out.refKept hO)
                  have O3 := Lib.hid P2.out.ar.ok
                  have sz3 := hO.size
                  clear hA hO hBA f0 f1 f2 f3 B2 HF
                  go_upto_region 31 with fail
                  go_loopw [177] (fun _ wq => ∃ (A2 : Ar) (l2 : List Rg) (Lv2 : Value), Ars w g c b (some gm) A' (some { m with used := m.used - A.used }) wq ∧ RefAt wq B h d A2 l2 m.cells Lv2 ∧ A2.ok ∧ A2.size = A.size ∧ A2.last = A.last ∧ l2.length ≤ l.length ∧ y3.heap.size ≤ wq.heap.size) (fun _ wq => match wq.cell? ⟨h, 1, none⟩ with | some (.slice _ n _) => n | _ => 0)
                  case atStart => exact ⟨A, l, Lv, A3.out, R3.out, O3.out, rfl, rfl, Nat.le_refl _, Nat.le_refl _⟩
                  case round =>
                    rename World => wq
                    obtain ⟨A2, l2, Lv2, q1, q2, q3, q4, q5, q6, q7⟩ := hrel
                    have Q1 := Lib.hid q1
                    have Q2 := Lib.hid q2
                    have Q3 := Lib.hid q3
                    obtain ⟨ao, cap, rfl, hcap, hcells⟩ := rrs_cells q2.own
                    have g1 := q2.head.cell 1
                    simp at g1
                    rcases l2 with _ | ⟨r, l2⟩
                    · have hb : Bare A A2 := ⟨q3, q4, q5, by have := q2.perm; simpa using this⟩
                      have e : A2 = A' := bare_eq hb HBA.out
                      have hu0 : m.used - A.used = (A'.used : Int) := by
                        rw [P2.out.used, show A'.used = 0 from by unfold Ar.used; rw [HBA.out.rs]; rfl]; omega
                      have P4 := Lib.hid (P2.out.next (m' := { m with used := m.used - A.used }) q1 (e ▸ q2) hu0 rfl (by omega))
                      have hla := HBA.out.last
                      clear q1 q2 q3 hcells Q1 Q2 Q3 hb e hu0
                      go_wp2_with fail
                      go_meet
                      exact ⟨_, _, _, _, P4.out, by omega, by simp⟩
                    · obtain ⟨gb, rfl, hgb1, hgb2, hcell⟩ := hcells (by simp)
                      have z1 := (hcell 0 (by simp)).1
                      simp at z1
                      have hi0 : idxOf (r :: l2) (r.id : Int) = some 0 := by unfold idxOf; simp [List.findIdx?_cons]
                      have FR := Lib.hid (show Calls Try.prog 24 #[.pointer (some ⟨h, 0, none⟩), .int .i64 (r.id : Int)] wq fun e w' => e = .returned (.int .i64 0) ∧ ∃ Lv', RefAt w' B h d (A2.free r) l2 m.cells Lv' ∧ Only [h, d] wq w' from rfree_yes A2 q3 (r :: l2) (by omega) (r.id : Int) B h d m.cells _ wq q2 0 (Nat.succ_pos _) hi0)
                      have hmem : r ∈ A2.rs := q2.perm.mem_iff.2 (by simp)
                      have OK := Lib.hid (q3.free hmem)
                      have ll : (r :: l2).length = l2.length + 1 := rfl
                      have hpos : (0 : Int) < ((r :: l2).length : Nat) := by simp
                      have hp0 : decide ((0 : Int) < ((r :: l2).length : Nat)) = true := by simp
                      clear q1 q2 q3 hcells hcell hi0
                      generalize (r :: l2).length = L at *
                      go_wp2_with fail
                      refine FR.out.mono ?_
                      rintro e y4 ⟨rfl, Lv3, r4, o4⟩
                      have A4 := Lib.hid (PlS.arKept (m' := m) Q1.out Q2.out P2.out.lt P2.out.ne P2.out.lo (o4.mono (by simp)) hwB)
                      have R4 := Lib.hid r4
                      have s4' := o4.size
                      have g1' := r4.head.cell 1
                      obtain ⟨ao3, cap3, e3, -, -⟩ := rrs_cells r4.own
                      subst e3
                      simp at g1'
                      clear r4 o4 FR
                      go_wp2_with fail
                      go_roundw
                      case rel => exact ⟨_, _, _, A4.out, R4.out, OK.out, q4, q5, by omega, by omega⟩
                      case measure => simp [g1, g1']; omega
                · have t7 : (kd == 5) = false := by simpa using h5
                  clear h1 h2 h3 h4 h5
                  go_wp2_with fail
                  go_meet
                  exact ⟨_, _, _, _, P2.out, by omega, by omega⟩
      case rest =>
        obtain ⟨A', m', l', Lv', hS, hA1, hl1'⟩ := hcut
        rename World => x3
        have P3 := Lib.hid hS
        obtain ⟨ao, cap, rfl, -, -⟩ := rrs_cells hS.rf.own
        clear hS P2 B2 f0 f1 f2 f3 HF
        have MC3 := Lib.hid P3.out.ar.mo
        go_wp2_with fail
        refine (cells_c m' gm x3 MC3.out.1).mono ?_
        rintro e x4 ⟨rfl, rfl⟩
        rw [P3.out.used]
        have P5 := Lib.hid (show PlS w g c b gm h d B A' m' l' (.slice ao l'.length cap) x3.drew.drew from P3.out.below (below_draws (Below.refl _ _) 2))
        have HS34 := Lib.hid (fun (W : World) (Lv2 : Value) (q : RefAt W B h d A' l' m'.cells Lv2) => And.intro (q.head.cell 0) (q.head.cell 4))
        simp at HS34
        go_upto_region 34 with fail
        refine wp_region_held_drew (S := fun w' => w'.cell? ⟨h, 0, none⟩ = some (.int .i64 A'.size) ∧ w'.cell? ⟨h, 4, none⟩ = some (.int .i64 A'.used)) (by kernel_rfl) (HS34.out _ _ P5.out.rf) (fun hHeld => ?_)
        generalize x3.drew.drew = x5 at *
        have us1 := P5.out.ar.ok.used_le
        have us2 := P5.out.ar.ok.size
        have us3 : IntKind.i64.wrap ((A'.size : Int) - (A'.used : Int)) = (A'.size : Int) - (A'.used : Int) := Int64w (by omega) (by omega)
        refine' wpAnyH_take (i := 0) (v := _) rfl (by kernel_rfl) (by kernel_rfl) (by kernel_rfl) (fun _ _ _ h => h) (Or.inl ⟨by kernel_rfl, ?hy0g⟩) (by assumption) ?r0g
        case hy0g => (intro w hSw; (try dsimp only at hSw); go_simp; with_reducible rfl)
        try simp only [Act.put]
        refine' wpAnyH_take (i := 1) (v := _) rfl (by kernel_rfl) (by kernel_rfl) (by kernel_rfl) (fun _ _ _ h => h) (Or.inl ⟨by kernel_rfl, ?hy1g⟩) (by assumption) ?r1g
        case hy1g => (intro w hSw; (try dsimp only at hSw); go_simp; with_reducible rfl)
        try simp only [Act.put]
        refine' wpAnyH_take (i := 2) (v := _) rfl (by kernel_rfl) (by kernel_rfl) (by kernel_rfl) (fun _ _ _ h => h) (Or.inl ⟨by kernel_rfl, ?hy2g⟩) (by assumption) ?r2g
        case hy2g => (intro w hSw; obtain ⟨q0, q4⟩ := hSw; go_simp; with_reducible rfl)
        try simp only [Act.put]
        refine' wpAnyH_take (i := 3) (v := _) rfl (by kernel_rfl) (by kernel_rfl) (by kernel_rfl) (fun _ _ _ h => h) (Or.inl ⟨by kernel_rfl, ?hy3g⟩) (by assumption) ?r3g
        case hy3g => (intro w hSw; (try dsimp only at hSw); go_simp; with_reducible rfl)
        try simp only [Act.put]
        refine' wpAnyH_take (i := 4) (v := _) rfl (by kernel_rfl) (by kernel_rfl) (by kernel_rfl) (fun _ _ _ h => h) (Or.inl ⟨by kernel_rfl, ?hy4g⟩) (by assumption) ?r4g
        case hy4g => (intro w hSw; (try dsimp only at hSw); go_simp; with_reducible rfl)
        try simp only [Act.put]
        refine' wpAnyH_take (i := 5) (v := _) rfl (by kernel_rfl) (by kernel_rfl) (by kernel_rfl) (fun _ _ _ h => h) (Or.inl ⟨by kernel_rfl, ?hy5g⟩) (by assumption) ?r5g
        case hy5g => (intro w hSw; (try dsimp only at hSw); go_simp; with_reducible rfl)
        try simp only [Act.put]
        refine' wpAnyH_take (i := 7) (v := _) rfl (by kernel_rfl) (by kernel_rfl) (by kernel_rfl) (fun _ _ _ h => h) (Or.inl ⟨by kernel_rfl, ?hy7g⟩) (by assumption) ?r7g
        case hy7g => (intro w hSw; (try dsimp only at hSw); go_simp; with_reducible rfl)
        try simp only [Act.put]
        refine' wpAnyH_take (i := 8) (v := _) rfl (by kernel_rfl) (by kernel_rfl) (by kernel_rfl) (fun _ _ _ h => h) (Or.inl ⟨by kernel_rfl, ?hy8g⟩) (by assumption) ?r8g
        case hy8g => (intro w hSw; obtain ⟨q0, q4⟩ := hSw; go_simp; with_reducible rfl)
        try simp only [Act.put]
        refine' wpAnyH_take (i := 9) (v := _) rfl (by kernel_rfl) (by kernel_rfl) (by kernel_rfl) (fun _ _ _ h => h) (Or.inl ⟨by kernel_rfl, ?hy9g⟩) (by assumption) ?r9g
        case hy9g => (intro w hSw; (try dsimp only at hSw); go_simp; with_reducible rfl)
        try simp only [Act.put]
        refine' wpAnyH_take (i := 10) (v := _) rfl (by kernel_rfl) (by kernel_rfl) (by kernel_rfl) (fun _ _ _ h => h) (Or.inl ⟨by kernel_rfl, ?hy10g⟩) (by assumption) ?r10g
        case hy10g => (intro w hSw; obtain ⟨q0, q4⟩ := hSw; go_simp; with_reducible rfl)
        try simp only [Act.put]
        refine' wpAnyH_take (i := 11) (v := _) rfl (by kernel_rfl) (by kernel_rfl) (by kernel_rfl) (fun _ _ _ h => h) (Or.inl ⟨by kernel_rfl, ?hy11g⟩) (by assumption) ?r11g
        case hy11g => (intro w hSw; (try dsimp only at hSw); go_simp; with_reducible rfl)
        try simp only [Act.put]
        refine wpAnyH_ready (rs := [6]) (by kernel_rfl) (by simp) (AllReadyH.cons rfl (fun K' hK => ?_) AllReadyH.nil)
        go_simp
        refine (left_c A' g c b _ _ P5.out.ar.ar).mono ?_
        rintro e y5 ⟨rfl, rfl⟩
        refine hK.out _ _ hHeld (fun hHeld => ?_)
        clear hK K'
        refine' wpAnyH_take (i := 12) (v := _) rfl (by kernel_rfl) (by kernel_rfl) (by kernel_rfl) (fun _ _ _ h => h) (Or.inl ⟨by kernel_rfl, ?hy12g⟩) (by assumption) ?r12g
        case hy12g => (intro w hSw; (try dsimp only at hSw); go_simp; with_reducible rfl)
        try simp only [Act.put]
        refine' wpAnyH_take (i := 13) (v := _) rfl (by kernel_rfl) (by kernel_rfl) (by kernel_rfl) (fun _ _ _ h => h) (Or.inl ⟨by kernel_rfl, ?hy13g⟩) (by assumption) ?r13g
        case hy13g => (intro w hSw; (try dsimp only at hSw); go_simp; with_reducible rfl)
        try simp only [Act.put]
        refine' wpAnyH_take (i := 14) (v := _) rfl (by kernel_rfl) (by kernel_rfl) (by kernel_rfl) (fun _ _ _ h => h) (Or.inl ⟨by kernel_rfl, ?hy14g⟩) (by assumption) ?r14g
        case hy14g => (intro w hSw; (try dsimp only at hSw); go_simp; with_reducible rfl)
        try simp only [Act.put]
        refine' wpAnyH_take (i := 15) (v := _) rfl (by kernel_rfl) (by kernel_rfl) (by kernel_rfl) (fun _ _ _ h => h) (Or.inl ⟨by kernel_rfl, ?hy15g⟩) (by assumption) ?r15g
        case hy15g => (intro w hSw; (try dsimp only at hSw); go_simp; with_reducible rfl)
        try simp only [Act.put]
        refine wpAnyH_ready (rs := [16]) (by kernel_rfl) (by simp) (AllReadyH.cons rfl (fun K' hK => ?_) AllReadyH.nil)
        go_simp
        refine (clean_c A' P5.out.ar.ok g c b _ _ P5.out.ar.ar).mono ?_
        rintro e y6 ⟨rfl, k6⟩
        have P6 := Lib.hid (P5.out.below k6)
        clear k6
        refine hK.out _ _ (HS34.out _ _ P6.out.rf) (fun hHeld => ?_)
        clear hK K'
        refine' wpAnyH_take (i := 17) (v := _) rfl (by kernel_rfl) (by kernel_rfl) (by kernel_rfl) (fun _ _ _ h => h) (Or.inl ⟨by kernel_rfl, ?hy17g⟩) (by assumption) ?r17g
        case hy17g => (intro w hSw; (try dsimp only at hSw); go_simp; with_reducible rfl)
        try simp only [Act.put]
        refine' wpAnyH_take (i := 18) (v := _) rfl (by kernel_rfl) (by kernel_rfl) (by kernel_rfl) (fun _ _ _ h => h) (Or.inl ⟨by kernel_rfl, ?hy18g⟩) (by assumption) ?r18g
        case hy18g => (intro w hSw; (try dsimp only at hSw); go_simp; with_reducible rfl)
        try simp only [Act.put]
        clear hHeld
        refine wpAnyH_done (by kernel_rfl) ?_ _
        have g1 := P6.out.rf.head.cell 1
        simp at g1
        have LL := P6.out.len_le
        go_upto_region 37 with fail
        go_loopw [206] (fun i wq => ∃ q : Nat, q ≤ l'.length ∧ i = .int .i64 q ∧ Below y6.heap.size y6 wq) (fun i _ => l'.length - (intOf i).toNat)
        case atStart => exact ⟨0, by omega, rfl, Below.refl _ _⟩
        case round =>
          rename World => wq
          obtain ⟨q, hq, rfl, hBq⟩ := hrel
          have L6 := Lib.hid hBq
          clear hBq
          by_cases hql : q < l'.length
          · obtain ⟨ao2, cap2, he2, -, hcells⟩ := rrs_cells (P6.out.below L6.out).rf.own
            injection he2 with he2 _ he3
            subst he2 he3
            obtain ⟨gb, rfl, hgb1, hgb2, hcell⟩ := hcells (by omega)
            obtain ⟨z0, z1, z2⟩ := hcell q hql
            have hmem : l'[q] ∈ A'.rs := P6.out.rf.perm.mem_iff.2 (List.getElem_mem hql)
            have hfr := findR_of P6.out.ar.ok.ids hmem
            have hre := P6.out.ar.ok.each _ hmem
            clear hmem
            generalize l'[q] = rr at z0 z1 z2 hfr hre
            obtain ⟨rid, rb, rn⟩ := rr
            simp only at z0 z1 z2 hfr hre
            have t8 : decide (q < l'.length) = true := by simpa using hql
            have t9 : (q : Int) < (l'.length : Nat) := by omega
            have BV := Lib.hid (show baseV A'.rs (rid : Int) = (rb : Int) from by unfold baseV; rw [hfr])
            have NV := Lib.hid (show lenV A'.rs (rid : Int) = (rn : Int) from by unfold lenV; rw [hfr])
            have WR := Lib.hid (show (Lit.int .i64 (rid : Int)).wf = true from wfI (by omega) (by omega))
            have BY7 := Lib.hid (show Blk (wq.alloc (.cells #[.int .i64 (rid : Int), .int .i64 (rb : Int), .int .i64 (rn : Int)] 55)).drew wq.heap.size 55 #[.int .i64 (rid : Int), .int .i64 (rb : Int), .int .i64 (rn : Int)] from Blk.made _ _ _)
            have L7 := Lib.hid (show Below y6.heap.size y6 (wq.alloc (.cells #[.int .i64 (rid : Int), .int .i64 (rb : Int), .int .i64 (rn : Int)] 55)).drew from below_draws (below_alloc L6.out _) 1)
            have P7 := Lib.hid (P6.out.below L7.out)
            clear hcells hcell hfr
            go_upto_region 39 with fail
            refine wp_region_held_drew (S := fun w' => Blk w' wq.heap.size 55 #[.int .i64 (rid : Int), .int .i64 (rb : Int), .int .i64 (rn : Int)]) (by kernel_rfl) BY7.out (fun hHeld => ?_)
            clear z0 z1 z2 L6
            generalize (wq.alloc (.cells #[.int .i64 (rid : Int), .int .i64 (rb : Int), .int .i64 (rn : Int)] 55)).drew = x7 at *
            generalize wq.heap.size = bq at *
            refine' wpAnyH_take (i := 0) (v := _) rfl (by kernel_rfl) (by kernel_rfl) (by kernel_rfl) (fun _ _ _ h => h) (Or.inl ⟨by kernel_rfl, ?hy0h⟩) (by assumption) ?r0h
            case hy0h => (intro w hSw; (try dsimp only at hSw); go_simp; with_reducible rfl)
            try simp only [Act.put]
            refine' wpAnyH_take (i := 1) (v := _) rfl (by kernel_rfl) (by kernel_rfl) (by kernel_rfl) (fun _ _ _ h => h) (Or.inl ⟨by kernel_rfl, ?hy1h⟩) (by assumption) ?r1h
            case hy1h => (intro w hSw; (try dsimp only at hSw); go_simp; with_reducible rfl)
            try simp only [Act.put]
            refine' wpAnyH_take (i := 2) (v := _) rfl (by kernel_rfl) (by kernel_rfl) (by kernel_rfl) (fun _ _ _ h => h) (Or.inl ⟨by kernel_rfl, ?hy2h⟩) (by assumption) ?r2h
            case hy2h => (intro w hSw; have q0 := Blk.cell hSw 0; have q1 := Blk.cell hSw 1; have q2 := Blk.cell hSw 2; simp at q0 q1 q2; go_simp; with_reducible rfl)
            try simp only [Act.put]
            refine' wpAnyH_take (i := 4) (v := _) rfl (by kernel_rfl) (by kernel_rfl) (by kernel_rfl) (fun _ _ _ h => h) (Or.inl ⟨by kernel_rfl, ?hy4h⟩) (by assumption) ?r4h
            case hy4h => (intro w hSw; (try dsimp only at hSw); go_simp; with_reducible rfl)
            try simp only [Act.put]
            refine' wpAnyH_take (i := 5) (v := _) rfl (by kernel_rfl) (by kernel_rfl) (by kernel_rfl) (fun _ _ _ h => h) (Or.inl ⟨by kernel_rfl, ?hy5h⟩) (by assumption) ?r5h
            case hy5h => (intro w hSw; have q0 := Blk.cell hSw 0; have q1 := Blk.cell hSw 1; have q2 := Blk.cell hSw 2; simp at q0 q1 q2; go_simp; with_reducible rfl)
            try simp only [Act.put]
            refine wpAnyH_ready (rs := [3]) (by kernel_rfl) (by simp) (AllReadyH.cons rfl (fun K' hK => ?_) AllReadyH.nil)
            go_simp
            refine (base_c A' (rid : Int) WR.out g c b _ _ P7.out.ar.ar).mono ?_
            rintro e y8 ⟨rfl, k8⟩
            rw [BV.out]
            have P8 := Lib.hid (P7.out.below k8)
            have BY8 := Lib.hid (BY7.out.below k8)
            have L8 := Lib.hid (below_step L7.out k8)
            clear k8
            refine hK.out _ _ BY8.out (fun hHeld => ?_)
            clear hK K'
            refine' wpAnyH_take (i := 6) (v := _) rfl (by kernel_rfl) (by kernel_rfl) (by kernel_rfl) (fun _ _ _ h => h) (Or.inl ⟨by kernel_rfl, ?hy6h⟩) (by assumption) ?r6h
            case hy6h => (intro w hSw; (try dsimp only at hSw); go_simp; with_reducible rfl)
            try simp only [Act.put]
            refine' wpAnyH_take (i := 7) (v := _) rfl (by kernel_rfl) (by kernel_rfl) (by kernel_rfl) (fun _ _ _ h => h) (Or.inl ⟨by kernel_rfl, ?hy7h⟩) (by assumption) ?r7h
            case hy7h => (intro w hSw; (try dsimp only at hSw); go_simp; with_reducible rfl)
            try simp only [Act.put]
            refine' wpAnyH_take (i := 8) (v := _) rfl (by kernel_rfl) (by kernel_rfl) (by kernel_rfl) (fun _ _ _ h => h) (Or.inl ⟨by kernel_rfl, ?hy8h⟩) (by assumption) ?r8h
            case hy8h => (intro w hSw; (try dsimp only at hSw); go_simp; with_reducible rfl)
            try simp only [Act.put]
            refine' wpAnyH_take (i := 9) (v := _) rfl (by kernel_rfl) (by kernel_rfl) (by kernel_rfl) (fun _ _ _ h => h) (Or.inl ⟨by kernel_rfl, ?hy9h⟩) (by assumption) ?r9h
            case hy9h => (intro w hSw; (try dsimp only at hSw); go_simp; with_reducible rfl)
            try simp only [Act.put]
            refine' wpAnyH_take (i := 10) (v := _) rfl (by kernel_rfl) (by kernel_rfl) (by kernel_rfl) (fun _ _ _ h => h) (Or.inl ⟨by kernel_rfl, ?hy10h⟩) (by assumption) ?r10h
            case hy10h => (intro w hSw; have q0 := Blk.cell hSw 0; have q1 := Blk.cell hSw 1; have q2 := Blk.cell hSw 2; simp at q0 q1 q2; go_simp; with_reducible rfl)
            try simp only [Act.put]
            refine' wpAnyH_take (i := 12) (v := _) rfl (by kernel_rfl) (by kernel_rfl) (by kernel_rfl) (fun _ _ _ h => h) (Or.inl ⟨by kernel_rfl, ?hy12h⟩) (by assumption) ?r12h
            case hy12h => (intro w hSw; (try dsimp only at hSw); go_simp; with_reducible rfl)
            try simp only [Act.put]
            refine' wpAnyH_take (i := 13) (v := _) rfl (by kernel_rfl) (by kernel_rfl) (by kernel_rfl) (fun _ _ _ h => h) (Or.inl ⟨by kernel_rfl, ?hy13h⟩) (by assumption) ?r13h
            case hy13h => (intro w hSw; have q0 := Blk.cell hSw 0; have q1 := Blk.cell hSw 1; have q2 := Blk.cell hSw 2; simp at q0 q1 q2; go_simp; with_reducible rfl)
            try simp only [Act.put]
            refine wpAnyH_ready (rs := [11]) (by kernel_rfl) (by simp) (AllReadyH.cons rfl (fun K' hK => ?_) AllReadyH.nil)
            go_simp
            refine (len_c A' (rid : Int) WR.out g c b _ _ P8.out.ar.ar).mono ?_
            rintro e y9 ⟨rfl, k9⟩
            rw [NV.out]
            have BY9 := Lib.hid (BY8.out.below k9)
            have L9 := Lib.hid (below_step L8.out k9)
            clear k9
            refine hK.out _ _ BY9.out (fun hHeld => ?_)
            clear hK K'
            refine' wpAnyH_take (i := 14) (v := _) rfl (by kernel_rfl) (by kernel_rfl) (by kernel_rfl) (fun _ _ _ h => h) (Or.inl ⟨by kernel_rfl, ?hy14h⟩) (by assumption) ?r14h
            case hy14h => (intro w hSw; (try dsimp only at hSw); go_simp; with_reducible rfl)
            try simp only [Act.put]
            refine' wpAnyH_take (i := 15) (v := _) rfl (by kernel_rfl) (by kernel_rfl) (by kernel_rfl) (fun _ _ _ h => h) (Or.inl ⟨by kernel_rfl, ?hy15h⟩) (by assumption) ?r15h
            case hy15h => (intro w hSw; (try dsimp only at hSw); go_simp; with_reducible rfl)
            try simp only [Act.put]
            clear hHeld
            refine wpAnyH_done (by kernel_rfl) ?_ _
            go_wp2_with fail
            go_roundw
            case rel => exact ⟨q + 1, by omega, by go_num, L9.out⟩
            case measure => simp [intOf]; omega
          · have e : q = l'.length := by omega
            subst e
            have t9 : ¬ l'.length < l'.length := by omega
            have P7 := Lib.hid (P6.out.below L6.out)
            go_wp2_with fail
            go_roundw
            case rel => exact ⟨k + 1, A', m', l', _, by omega, by go_num, P7.out, by omega, by omega⟩
            case measure => simp [intOf]; omega
    · have e : k = len1 := by omega
      subst e
      have t0 : ¬ k < k := by omega
      go_wp2_with fail
      go_ret
      exact ⟨rfl, P1.out.ar.below⟩
end Go.Proofs.Ytgckncggcdmaaaa
