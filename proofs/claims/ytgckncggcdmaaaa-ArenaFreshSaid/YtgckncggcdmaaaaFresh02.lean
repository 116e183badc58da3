/- The walk of ArenaFresh. -/
import Derived.Test.YtgckncggcdmaaaaFrPure
namespace Go.Proofs.Ytgckncggcdmaaaa
open Go.RowKit Go.Maps
set_option maxHeartbeats 1000000 in
set_option maxRecDepth 100000 in
theorem fresh_big (n : Int) (A1 : Option Addr) (len1 cap1 : Nat) (h : longB n len1 = true) (w : World) : Calls Try.prog 4 #[.int .i64 n, .slice A1 len1 cap1] w fun e w' => e = .returned (.bool true) ∧ Below w.heap.size w w' := by
  have L1 := fun w => long_c n A1 len1 cap1 w
  rw [h] at L1
  have L1' := Lib.hid L1
  clear h L1
  go_enter Try.func4, Try.ntmps4
  go_wp2_with fail
  refine (awake_c _).mono ?_
  rintro e w1 ⟨rfl, h1⟩
  have H1 := Lib.hid h1
  clear h1
  go_wp2_with fail
  refine (L1'.out _).mono ?_
  rintro e w2 ⟨rfl, rfl⟩
  go_wp2_with fail
  refine (awake_c _).mono ?_
  rintro e w2 ⟨rfl, h2⟩
  have H2 := Lib.hid (below_step H1.out h2)
  clear h2
  go_wp2_with fail
  go_ret
  exact ⟨rfl, H2.out⟩
/-- The arena, and what is held. -/
structure FrS (w W2 : World) (g c b k Hb : Nat) (A : Ar) (f : Int → Nat) (wr : World) : Prop where
  ar : Ars w g c b none A none wr
  held : HeldAt wr W2.heap.size k Hb A f
  lt : g < W2.heap.size ∧ c < W2.heap.size ∧ b < W2.heap.size
  size : W2.heap.size ≤ wr.heap.size
  le : w.heap.size ≤ W2.heap.size
section
variable {w W2 wr W' : World} {g c b k Hb : Nat} {A A' : Ar} {f f' : Int → Nat}
theorem FrS.below (h : FrS w W2 g c b k Hb A f wr) (q : Below wr.heap.size wr W') : FrS w W2 g c b k Hb A f W' := ⟨h.ar.later q, h.held.below q, h.lt, Nat.le_trans h.size q.size, h.le⟩
theorem FrS.mono (h : FrS w W2 g c b k Hb A f wr) {k' : Nat} (q : k ≤ k') : FrS w W2 g c b k' Hb A f wr := ⟨h.ar, h.held.mono q, h.lt, h.size, h.le⟩
/-- What a call on the arena leaves of what is held. -/
theorem FrS.kept (h : FrS w W2 g c b k Hb A f wr) (q : Only ([g, c, b] ++ (none : Option Nat).toList) wr W') : HeldAt W' W2.heap.size k Hb A f := h.held.far q (by intro x hx; have := h.lt; simp at hx; omega)
/-- What a store into a map leaves of the arena. -/
theorem ars_map {x : Nat} (h : Ars w g c b none A none wr) (hl : g < W2.heap.size ∧ c < W2.heap.size ∧ b < W2.heap.size) (hle : w.heap.size ≤ W2.heap.size) (hg : wr.grownBy W' (some x)) (hx : W2.heap.size ≤ x) : Ars w g c b none A none W' :=
  h.keep (Only.ofGrown1 hg) (by simp; omega) (by simp; omega) (by simp; omega) (by simp; omega) (by simp)
end
set_option maxHeartbeats 16000000 in
set_option maxRecDepth 100000 in
theorem fresh_main (n : Int) (A1 : Option Addr) (len1 cap1 : Nat) (X1 : Nat → Nat → Int) (w : World) (hb1 : longB n len1 = false)
    (hS1 : 0 < len1 → ∃ b o, A1 = some ⟨b, o, none⟩ ∧ b < w.heap.size ∧ ∀ i, i < len1 → ∀ j, j < 4 → w.cell? ⟨b, o + (i * 4 + j), none⟩ = some (.int .i64 (X1 i j)))
    (hX1 : ∀ i, i < len1 → ∀ j, j < 4 → (Lit.int .i64 (X1 i j)).wf = true) :
    Calls Try.prog 4 #[.int .i64 n, .slice A1 len1 cap1] w fun e w' => e = .returned (.bool true) ∧ Below w.heap.size w w' := by
  have L1 := fun w => long_c n A1 len1 cap1 w
  rw [hb1] at L1
  have L1' := Lib.hid L1
  have hl1 : len1 ≤ 200 := by unfold longB at hb1; simp at hb1; omega
  have C1 := Lib.hid hS1
  have X1W := Lib.hid hX1
  have hmm := @run_makeMap Try.prog
  clear L1 hb1 hS1 hX1
  go_enter Try.func4, Try.ntmps4
  go_wp2_with fail
  refine (awake_c _).mono ?_
  rintro e w1 ⟨rfl, h1⟩
  have H1 := Lib.hid h1
  clear h1
  go_wp2_with fail
  refine (L1'.out _).mono ?_
  rintro e w2 ⟨rfl, rfl⟩
  go_wp2_with fail
  refine (arnew_a (w := w) none none n w1 H1.out trivial (by simp)).mono ?_
  rintro e w2 ⟨g, c, b, rfl, m1, m2, m3, a1, k1⟩
  have S0 := Lib.hid (show FrS w w2 g c b 0 w2.heap.size (Ar.new (szAr n)) (fun _ => 0) (w2.alloc (.map #[] 0)) from ⟨a1.later (below_alloc (Below.refl _ _) _), HeldAt.start _ _ _ _ (Nat.le_refl _) _, ⟨a1.ar.head.lt, a1.ar.rows.lt, a1.ar.map.lt⟩, by simp, Nat.le_trans H1.out.size k1.size⟩)
  clear a1 k1 m1 m2 m3
  go_wp2_with fail
  go_loopw [6, 32] (fun v i wr => ∃ (k Hb : Nat) (A : Ar) (f : Int → Nat), k ≤ len1 ∧ i = .int .i64 k ∧ v = .map (some Hb) ∧ FrS w w2 g c b k Hb A f wr ∧ A.last ≤ k) (fun _ i _ => len1 - (intOf i).toNat)
  case atStart => exact ⟨0, _, _, _, by omega, rfl, rfl, S0.out, Nat.zero_le _⟩
  case round =>
    obtain ⟨k, Hb, A, f, hk, rfl, rfl, hS, hA0⟩ := hrel
    have S1 := Lib.hid hS
    clear hS
    by_cases hlt : k < len1
    · obtain ⟨bo, oo, rfl, hbo, hcell⟩ := C1.out (by omega)
      have d0 : wr.cell? ⟨bo, oo + k * 4, none⟩ = some (.int .i64 (X1 k 0)) := (S1.out.ar.below.cell (p := ⟨bo, _, none⟩) hbo).trans (hcell k hlt 0 (by omega))
      have d1 : wr.cell? ⟨bo, oo + k * 4 + 1, none⟩ = some (.int .i64 (X1 k 1)) := (S1.out.ar.below.cell (p := ⟨bo, _, none⟩) hbo).trans (hcell k hlt 1 (by omega))
      have d2 : wr.cell? ⟨bo, oo + k * 4 + 2, none⟩ = some (.int .i64 (X1 k 2)) := (S1.out.ar.below.cell (p := ⟨bo, _, none⟩) hbo).trans (hcell k hlt 2 (by omega))
      have d3 : wr.cell? ⟨bo, oo + k * 4 + 3, none⟩ = some (.int .i64 (X1 k 3)) := (S1.out.ar.below.cell (p := ⟨bo, _, none⟩) hbo).trans (hcell k hlt 3 (by omega))
      have W1 := Lib.hid (X1W.out k hlt 1 (by omega))
      have W2 := Lib.hid (X1W.out k hlt 2 (by omega))
      have W3 := Lib.hid (X1W.out k hlt 3 (by omega))
      have t0 : decide (k < len1) = true := by simp; omega
      have t2 : (k : Int) < (len1 : Nat) := by omega
      clear hcell
      go_upto_region 8 with fail
      have B2 := Lib.hid (Blk.made wr 28 #[.int .i64 (X1 k 0), .int .i64 (X1 k 1), .int .i64 (X1 k 2), .int .i64 (X1 k 3)])
      have S2 := Lib.hid (S1.out.below (below_alloc (Below.refl _ wr) (.cells #[.int .i64 (X1 k 0), .int .i64 (X1 k 1), .int .i64 (X1 k 2), .int .i64 (X1 k 3)] 28)))
      have s4 := S1.out.size
      have hbx : Hb < wr.heap.size := by obtain ⟨D, h1, _⟩ := S1.out.held.own; exact h1.lt
      have HFX : Hid (∀ r ∈ A.rs, f r.id < wr.heap.size) := Lib.hid (fun r hr => (S1.out.held.inner r hr).lt)
      clear d0 d1 d2 d3 S1
      generalize wr.alloc (.cells #[.int .i64 (X1 k 0), .int .i64 (X1 k 1), .int .i64 (X1 k 2), .int .i64 (X1 k 3)] 28) = x2 at *
      generalize wr.heap.size = bx at *
      generalize X1 k 0 = kd at *
      generalize X1 k 1 = xid at *
      generalize X1 k 2 = xn at *
      generalize X1 k 3 = xv at *
      have f0 := B2.out.cell 0
      have f1 := B2.out.cell 1
      have f2 := B2.out.cell 2
      have f3 := B2.out.cell 3
      simp at f0 f1 f2 f3
      have KI := Lib.hid (keyI xid W1.out)
      go_upto_block 2 with fail
      go_cut [6, 9, 10, 11, 12, 13] from 38 to 104 (fun v6 _ _ _ _ _ wx => ∃ (Hb' : Nat) (A' : Ar) (f' : Int → Nat), v6 = .map (some Hb') ∧ FrS w w2 g c b (k + 1) Hb' A' f' wx ∧ A'.last ≤ k + 1)
      case first =>
        by_cases h1 : kd = 1
        · subst h1
          go_wp2_with fail
          refine (alloc_o S2.out.ar (by omega) xn (wf_le W2.out)).mono ?_
          rintro e x3 ⟨rfl, hA, hO⟩
          rcases allocF_cases A xn with ⟨base, q, hq1, hq2, hq3, hq4⟩ | ⟨cc, hc1, hc2⟩
          · rw [hq4] at hA ⊢
            obtain ⟨nid, hnid⟩ : ∃ nid : Int, nid = ((A.last + 1 : Nat) : Int) := ⟨_, rfl⟩
            have HNI := Lib.hid hnid
            have KX := Lib.hid (keyI nid (wfI (by omega) (by omega)))
            have WN := Lib.hid (show (Lit.int .i64 nid).wf = true from wfI (by omega) (by omega))
            rw [← hnid]
            clear hnid
            have hkm : k < maxLen := by unfold maxLen; omega
            have hqb : q ≤ 1048576 := by have := (gapL_some S2.out.ar.ok.sorted (fun r hr => ⟨Nat.zero_le _, (S2.out.ar.ok.each r hr).2.1⟩) hq2).2.1; have := S2.out.ar.ok.size; omega
            have HE3 := Lib.hid (S2.out.kept hO)
            obtain ⟨D, hD1, hD2⟩ := HE3.out.own
            have HAA := Lib.hid hA
            have HD2 := Lib.hid hD2
            have HG := Lib.hid hq2
            have sx2 := S2.out.size
            have s3 : x2.heap.size ≤ x3.heap.size := hO.size
            have hbx2 : bx < x2.heap.size := B2.out.lt
            have f2' : x3.cell? ⟨bx, 2, none⟩ = some (.int .i64 xn) := (hO.cell (p := ⟨bx, 2, none⟩) hbx2 (by simp; have := S2.out.lt; omega)).trans f2
            have hown := hD1.alloc (.map #[] 0)
            have hlt3 : bx < x3.heap.size := by omega
            subst hq3
            clear hA hO hq4 hD1 hD2 hq2
            go_wp2_with (at_mapUpdate; refine wpList_mapUpdate_own _ rfl _ _ _ 37 rfl 3 38 law_int Try.underlying37 _ Hb k D rfl hown hkm _ _ (.int .i64 nid) rfl rfl KX.out (refD (some x3.heap.size)) [] (refR_mk _) ?_; intro x4 ho4 hg4; have f2'' : x4.cell? ⟨bx, 2, none⟩ = some (.int .i64 (q : Int)) := ((Only.ofGrown1 hg4).cell (p := ⟨bx, 2, none⟩) (by simp; omega) (by simp; omega)).trans (((below_alloc (Below.refl _ x3) (.map #[] 0)).cell (p := ⟨bx, 2, none⟩) hlt3).trans f2'); rw [HNI.out] at ho4)
            have S4 := Lib.hid (show FrS w w2 g c b (k + 1) Hb (A.alloc base q) (fun x => if x = ((A.last + 1 : Nat) : Int) then x3.heap.size else f x) x4 from
              ⟨ars_map (HAA.out.later (below_alloc (Below.refl _ _) _)) S2.out.lt S2.out.le hg4 HE3.out.hb,
               (HE3.out.below (below_alloc (Below.refl _ _) _)).alloc S2.out.ar.ok HG.out HD2.out (World.ownsMap_made _ _ _ _) (fun r hr => by have := HFX.out r hr; omega) ⟨by omega, by omega⟩ hg4 ho4,
               S2.out.lt, by have := hg4.size; simp at this; omega, S2.out.le⟩)
            clear ho4 hg4 hown f2' f0 f1 f2 f3
            have FN := Lib.hid (show findR (A.alloc base q).rs nid = some ⟨A.last + 1, base, q⟩ from by rw [HNI.out]; exact findR_new S2.out.ar.ok base q)
            have ZC := Lib.hid (fun i (hi : i < q) => alloc_zero S2.out.ar.ok HG.out hi)
            go_wp2_with fail
            go_loopw [54] (fun i wp => ∃ j : Nat, j ≤ q ∧ i = .int .i64 j ∧ Below x4.heap.size x4 wp) (fun i _ => q - (intOf i).toNat)
            case atStart => exact ⟨0, by omega, rfl, Below.refl _ _⟩
            case round =>
              rename World => wp
              obtain ⟨j, hj, rfl, hB⟩ := hrel
              have BP := Lib.hid hB
              clear hB
              by_cases hjt : j < q
              · have GC := get_a (S4.out.ar.later BP.out) nid (j : Int) WN.out
                have ge : getF (A.alloc base q) nid (j : Int) = 0 := by
                  unfold getF
                  rw [FN.out]
                  simp only
                  rw [if_pos ⟨by omega, by simp; omega⟩, Int.toNat_natCast]
                  exact ZC.out j hjt
                have gc : cellE (A.alloc base q).rs nid (j : Int) = 0 := by
                  unfold cellE
                  rw [FN.out]
                  simp only
                  rw [if_pos ⟨by omega, by simp; omega⟩]
                rw [ge, gc] at GC
                have GC' := Lib.hid GC
                have t9 : decide (j < q) = true := by simpa using hjt
                clear GC ge gc
                go_wp2_with fail
                refine GC'.out.mono ?_
                rintro e y1 ⟨rfl, k1⟩
                have BP1 := Lib.hid (below_step BP.out k1)
                clear k1
                go_wp2_with fail
                go_roundw
                case rel => exact ⟨j + 1, by omega, by go_num, BP1.out⟩
                case measure => simp [intOf]; omega
              · have e : j = q := by omega
                subst e
                have t9 : ¬ j < j := by omega
                go_wp2_with fail
                go_meet
                exact ⟨_, _, _, rfl, S4.out.below BP.out, by show A.last + 1 ≤ k + 1; omega⟩
          · rw [hc2] at hA ⊢
            have t5 : (cc != 0) = true := by simpa using hc1
            have S3 := Lib.hid (show FrS w w2 g c b (k + 1) Hb A f x3 from ⟨hA, (S2.out.kept hO).mono (Nat.le_succ _), S2.out.lt, Nat.le_trans S2.out.size hO.size, S2.out.le⟩)
            clear hA hO hc1 hc2
            go_wp2_with fail
            go_roundw
            case rel => exact ⟨k + 1, Hb, A, f, by omega, by go_num, rfl, S3.out, by omega⟩
            case measure => simp [intOf]; omega
        · by_cases h2 : kd = 2
          · subst h2
            cases hf : findR A.rs xid with
            | none =>
              have e2 : freeF A none xid = ((A, none), 7) := by unfold freeF; rw [hf]
              go_wp2_with fail
              refine (free_o S2.out.ar xid W1.out).mono ?_
              rintro e x3 ⟨rfl, hA, hO⟩
              rw [e2] at hA ⊢
              have S3 := Lib.hid (show FrS w w2 g c b (k + 1) Hb A f x3 from ⟨hA, (S2.out.kept hO).mono (Nat.le_succ _), S2.out.lt, Nat.le_trans S2.out.size hO.size, S2.out.le⟩)
              clear hA hO e2
              go_wp2_with fail
              go_meet
              exact ⟨_, _, _, rfl, S3.out, by omega⟩
            | some r =>
              have e2 : freeF A none xid = ((A.free r, none), 0) := by unfold freeF; rw [hf]; rfl
              obtain ⟨hr, hrx⟩ := findR_some hf
              have HR := Lib.hid hr
              have HX := Lib.hid hrx
              clear hr hrx
              go_wp2_with fail
              refine (free_o S2.out.ar xid W1.out).mono ?_
              rintro e x3 ⟨rfl, hA, hO⟩
              rw [e2] at hA ⊢
              have HE3 := Lib.hid (S2.out.kept hO)
              have HAA := Lib.hid hA
              have hbx2 : bx < x2.heap.size := B2.out.lt
              have f1' : x3.cell? ⟨bx, 1, none⟩ = some (.int .i64 xid) := (hO.cell (p := ⟨bx, 1, none⟩) hbx2 (by simp; have := S2.out.lt; omega)).trans f1
              have sx3 : w2.heap.size ≤ x3.heap.size := Nat.le_trans S2.out.size hO.size
              obtain ⟨D, hD1, hD2⟩ := HE3.out.own
              have HD2 := Lib.hid hD2
              clear hA hO e2 hD2 hf
              go_wp2_with (at_delete; refine wpList_delete_own _ rfl _ _ 37 3 rfl 38 law_int Try.underlying37 _ Hb k D rfl hD1 _ _ rfl KI.out ?_; intro x4 ho4 hturn4)
              have hg4 := hturn4.grown
              rw [← HX.out] at ho4
              have S4 := Lib.hid (show FrS w w2 g c b (k + 1) Hb (A.free r) f x4 from
                ⟨ars_map HAA.out S2.out.lt S2.out.le hg4 HE3.out.hb, (HE3.out.free S2.out.ar.ok HR.out HD2.out hg4 ho4).mono (Nat.le_succ _), S2.out.lt, Nat.le_trans sx3 hg4.size, S2.out.le⟩)
              clear ho4 hg4 hturn4 hD1
              go_wp2_with fail
              go_meet
              exact ⟨_, _, _, rfl, S4.out, by show A.last ≤ k + 1; omega⟩
          · by_cases h3 : kd = 3
            · subst h3
              by_cases hce : cellE A.rs xid xn = 0
              · obtain ⟨r, hf, hx0, hxn⟩ : ∃ r, findR A.rs xid = some r ∧ 0 ≤ xn ∧ xn < r.n := by
                  unfold cellE at hce
                  cases hf : findR A.rs xid with
                  | none => rw [hf] at hce; simp at hce
                  | some r =>
                    rw [hf] at hce
                    simp only at hce
                    by_cases hi : 0 ≤ xn ∧ xn < r.n
                    · exact ⟨r, rfl, hi⟩
                    · rw [if_neg hi] at hce; simp at hce
                obtain ⟨i, rfl⟩ : ∃ i : Nat, xn = i := ⟨xn.toNat, by omega⟩
                have e3 : setF A xid (i : Int) xv = A.set (r.b + i) xv := by unfold setF; rw [hf]; simp only; rw [if_pos ⟨hx0, hxn⟩, Int.toNat_natCast]
                obtain ⟨hr, hrx⟩ := findR_some hf
                subst hrx
                have HR := Lib.hid hr
                have hlk0 := Lib.hid (fun (W : World) (h : HeldAt W w2.heap.size k Hb A f) => h.look hr S2.out.ar.ok W1.out)
                clear hr
                go_wp2_with fail
                refine (set_o S2.out.ar (r.id : Int) (i : Int) xv W1.out).mono ?_
                rintro e x3 ⟨rfl, hA, hO⟩
                rw [e3] at hA
                rw [hce]
                have HE3 := Lib.hid (S2.out.kept hO)
                have HAA := Lib.hid hA
                have hbx2 : bx < x2.heap.size := B2.out.lt
                have hOc := fun j => hO.cell (p := ⟨bx, j, none⟩) hbx2 (by simp; have := S2.out.lt; omega)
                have f1' : x3.cell? ⟨bx, 1, none⟩ = some (.int .i64 (r.id : Int)) := (hOc 1).trans f1
                have f2' : x3.cell? ⟨bx, 2, none⟩ = some (.int .i64 (i : Int)) := (hOc 2).trans f2
                have f3' : x3.cell? ⟨bx, 3, none⟩ = some (.int .i64 xv) := (hOc 3).trans f3
                have sx3 : w2.heap.size ≤ x3.heap.size := Nat.le_trans S2.out.size hO.size
                have hlk := hlk0.out x3 HE3.out
                obtain ⟨Di, i1, i2, i3⟩ := HE3.out.inner r HR.out
                have HI2 := Lib.hid i2
                have HI3 := Lib.hid i3
                have HIN := Lib.hid (by omega : i < r.n)
                have LO := Lib.hid (HE3.out.lo r HR.out)
                have KN := Lib.hid (keyI (i : Int) W2.out)
                have hkm : k < maxLen := by unfold maxLen; omega
                clear hA hO e3 hf hOc i2 i3 hxn hlk0
                go_wp2_with (at_mapUpdate; refine wpList_mapUpdate_own _ rfl _ _ _ 38 rfl 3 3 law_int Try.underlying38 _ (f r.id) k Di rfl i1 hkm _ _ (.int .i64 (i : Int)) rfl rfl KN.out (.lit (.int .i64 xv)) [] (plainElem_int Try.underlying3 W3.out) ?_; intro x4 ho4 hg4)
                have S4 := Lib.hid (show FrS w w2 g c b (k + 1) Hb (A.set (r.b + i) xv) f x4 from
                  ⟨ars_map HAA.out S2.out.lt S2.out.le hg4 LO.out.1, HE3.out.set S2.out.ar.ok HR.out HIN.out xv HI2.out HI3.out hg4 ho4, S2.out.lt, Nat.le_trans sx3 hg4.size, S2.out.le⟩)
                clear ho4 hg4 i1 hlk
                go_wp2_with fail
                go_meet
                exact ⟨_, _, _, rfl, S4.out, by show A.last ≤ k + 1; omega⟩
              · have t9 : (cellE A.rs xid xn == 0) = false := by simpa using hce
                have e3 : setF A xid xn xv = A := by
                  unfold cellE at hce
                  unfold setF
                  cases hf : findR A.rs xid with
                  | none => rfl
                  | some r =>
                    rw [hf] at hce
                    simp only at hce ⊢
                    by_cases hi : 0 ≤ xn ∧ xn < r.n
                    · rw [if_pos hi] at hce; exact absurd rfl hce
                    · rw [if_neg hi]
                go_wp2_with fail
                refine (set_o S2.out.ar xid xn xv W1.out).mono ?_
                rintro e x3 ⟨rfl, hA, hO⟩
                rw [e3] at hA
                have S3 := Lib.hid (show FrS w w2 g c b (k + 1) Hb A f x3 from ⟨hA, (S2.out.kept hO).mono (Nat.le_succ _), S2.out.lt, Nat.le_trans S2.out.size hO.size, S2.out.le⟩)
                clear hA hO e3 hce
                go_wp2_with fail
                go_meet
                exact ⟨_, _, _, rfl, S3.out, by omega⟩
            · by_cases h5 : kd = 5
              · subst h5
                go_wp2_with fail
                refine (wipe_a S2.out.ar (by simp)).mono ?_
                rintro e x3 ⟨rfl, A', hBA, hA, hO⟩
                have S3 := Lib.hid (show FrS w w2 g c b (k + 1) x3.heap.size A' f (x3.alloc (.map #[] 0)) from ⟨hA.later (below_alloc (Below.refl _ _) _), HeldAt.bare (Nat.le_trans S2.out.size hO.size) f hBA.rs, S2.out.lt, by have := S2.out.size; have := hO.size; simp; omega, S2.out.le⟩)
                have HBA := Lib.hid hBA
                clear hA hO hBA
                go_wp2_with fail
                go_meet
                exact ⟨_, _, _, rfl, S3.out, by rw [HBA.out.last]; omega⟩
              · have t1 : (kd == 1) = false := by simpa using h1
                have t3 : (kd == 2) = false := by simpa using h2
                have t4 : (kd == 3) = false := by simpa using h3
                have t5 : (kd == 5) = false := by simpa using h5
                clear h1 h2 h3 h5
                go_wp2_with fail
                go_meet
                exact ⟨_, _, _, rfl, S2.out.mono (Nat.le_succ _), by omega⟩
      case rest =>
        obtain ⟨Hb', A', f', rfl, hS, hA1⟩ := hcut
        rename World => x3
        have S3 := Lib.hid hS
        obtain ⟨D, hD1, hD2⟩ := hS.held.own
        have HD2 := Lib.hid hD2
        clear hS S2 B2 f0 f1 f2 f3 hD2 HFX
        go_wp2_with (at_range; refine wpList_range_own _ rfl _ 37 rfl 3 38 law_int Try.underlying37 _ Hb' _ _ rfl hD1 ?_; intro x4 hrg4 hg4 hs4)
        have HR4 := Lib.hid hrg4
        have BB4 := Lib.hid (show Below x3.heap.size x3 x4 from (Below.refl _ x3).grown hg4 (Nat.le_refl _) (fun k e => by cases e))
        clear hrg4 hg4 hD1
        go_frame
        go_loopw [14] (fun _ wq => ∃ (left : Lit → Bool) (cnt : Nat), wq.ranges Try.prog 3 refR Hb' x3.heap.size (k + 1) D left cnt ∧ Below x3.heap.size x3 wq) (fun _ wq => wq.rangeLeft Hb' x3.heap.size)
        case atStart => exact ⟨_, _, HR4.out, BB4.out⟩
        case round =>
          rename World => wq
          obtain ⟨left, cnt, hrg, hB⟩ := hrel
          have BQ := Lib.hid hB
          clear hB
          go_wp2_with (at_next; refine wpList_next_ranges _ rfl _ rfl 3 law_int refR encZ Value.map (fun key kl hk => by obtain ⟨x, hx, _⟩ := Maps.keyOf_i64 Try.underlying3 hk; exact ⟨x, hx⟩) (fun v y hv => by obtain ⟨c, rfl, _⟩ := refR_inv hv; exact ⟨c, rfl⟩) Hb' x3.heap.size _ _ _ _ rfl hrg ?_ ?_)
          · intro hc0 hl0
            clear hl0 hrg
            go_wp2_with fail
            go_roundw
            case rel => exact ⟨k + 1, Hb', A', f', by omega, by go_num, rfl, S3.out.below BQ.out, by omega⟩
            case measure => simp [intOf]; omega
          · intro x cq kl yd yp w5 cnt2 hkey hlk hv hat hrg2 hlt2 hg3 hs3 hen
            obtain ⟨x', ex, rfl, hwf⟩ := Maps.keyOf_i64 Try.underlying3 hkey
            obtain rfl : x = x' := encZ_inj ex
            have hhas : Maps.has D (.int .i64 x) = true := has_true_of_atKey hat
            rw [HD2.out.has] at hhas
            cases hf : findR A'.rs x with
            | none => rw [hf] at hhas; cases hhas
            | some r =>
              have h1 := hat (.lit (.int .i64 0))
              rw [HD2.out.at_ x r _ hf] at h1
              obtain ⟨cq', ec, ey⟩ := refR_inv hv
              have hyd : yd = refD cq' := (Prod.mk.inj ey).1
              have hcq : cq' = some (f' x) := refD_inj (hyd.symm.trans h1.symm)
              have hcc : cq = some (f' x) := by injection ec with ec; rw [ec, hcq]
              subst hcc
              obtain ⟨hr, hrx⟩ := findR_some hf
              have BQ5 := Lib.hid (BQ.out.grown hg3 BQ.out.size (fun k e => by cases e; exact Nat.le_refl _))
              have hre := S3.out.ar.ok.each r hr
              have hsz := S3.out.ar.ok.size
              have HIN := Lib.hid (show InAt x3 (k + 1) (f' x) A'.cs r from by rw [← hrx]; exact S3.out.held.inner r hr)
              have HL : Hid (lenV A'.rs x = r.n) := Lib.hid (by unfold lenV; rw [hf])
              have HG : Hid (∀ i : Nat, i < r.n → getF A' x (i : Int) = A'.cs.getD (r.b + i) 0 ∧ cellE A'.rs x (i : Int) = 0) := Lib.hid (fun i hi => by
                unfold getF cellE
                rw [hf]
                simp only
                rw [if_pos ⟨by omega, by omega⟩, if_pos ⟨by omega, by omega⟩, Int.toNat_natCast]
                exact ⟨rfl, rfl⟩)
              have HX : Hid ((Lit.int .i64 x).wf = true) := Lib.hid hwf
              have HR5 := Lib.hid hrg2
              have HLE := Lib.hid hrg.left_eq
              have HLT := Lib.hid hlt2
              have LC := Lib.hid (fun (W : World) (hB : Below x3.heap.size x3 W) => len_c A' x hwf g c b _ W (S3.out.below hB).ar.ar)
              have GC := Lib.hid (fun (W : World) (hB : Below x3.heap.size x3 W) (i : Nat) (hi : i < r.n) => by
                have := get_a (S3.out.below hB).ar x (i : Int) hwf
                rw [(HG.out i hi).1, (HG.out i hi).2] at this
                exact this)
              have hnb : r.n ≤ 1048576 := by omega
              clear hkey hat hv h1 ey hyd hcq ec hhas hf hr hrx hg3 hs3 hrg hrg2 hlt2 hlk hwf
              go_wp2_with fail
              refine (LC.out _ BQ5.out).mono ?_
              rintro e w6 ⟨rfl, k6⟩
              rw [HL.out]
              have BQ6 := Lib.hid (below_step BQ5.out k6)
              have HR6 := Lib.hid (ranges_only HR5.out (Only.ofBelow [] k6) (by simp) (by simp))
              clear k6 hen
              go_wp2_with fail
              go_loopw [115] (fun i wp => ∃ q : Nat, q ≤ r.n ∧ i = .int .i64 q ∧ Below w6.heap.size w6 wp) (fun i _ => r.n - (intOf i).toNat)
              case atStart => exact ⟨0, by omega, rfl, Below.refl _ _⟩
              case round =>
                rename World => wp
                obtain ⟨q, hq, rfl, hB⟩ := hrel
                have BP := Lib.hid hB
                clear hB
                by_cases hqt : q < r.n
                · have t9 : decide (q < r.n) = true := by simpa using hqt
                  have BX := Lib.hid (below_step BQ6.out BP.out)
                  have HI2 := Lib.hid (fun (W : World) (hB : Below x3.heap.size x3 W) => (HIN.out.only (Only.ofBelow [] hB) (by simp)).look hqt (wfI (by omega) (by omega)))
                  have GC' := Lib.hid (GC.out _ BX.out q hqt)
                  go_wp2_with fail
                  refine GC'.out.mono ?_
                  rintro e w7 ⟨rfl, k7⟩
                  have BP7 := Lib.hid (below_step BP.out k7)
                  have hlk := HI2.out w7 (below_step BX.out k7)
                  clear k7
                  generalize A'.cs.getD (r.b + q) 0 = vv at *
                  go_wp2_with fail
                  go_roundw
                  case rel => exact ⟨q + 1, by omega, by go_num, BP7.out⟩
                  case measure => simp [intOf]; omega
                · have e : q = r.n := by omega
                  have HR7 := ranges_only HR6.out (Only.ofBelow [] BP.out) (by simp) (by simp)
                  subst e
                  have t9 : ¬ r.n < r.n := by omega
                  go_wp2_with fail
                  go_roundw
                  case rel => exact ⟨_, cnt2, HR7, below_step BQ6.out BP.out⟩
                  case measure => rw [HR7.left_eq, HLE.out]; exact HLT.out
    · have e : k = len1 := by omega
      subst e
      have t0 : ¬ k < k := by omega
      go_wp2_with fail
      go_ret
      exact ⟨rfl, S1.out.ar.below⟩
theorem arenaFresh_c (n : Int) (A1 : Option Addr) (len1 cap1 : Nat) (X1 : Nat → Nat → Int) (w : World)
    (hS1 : 0 < len1 → ∃ b o, A1 = some ⟨b, o, none⟩ ∧ b < w.heap.size ∧ ∀ i, i < len1 → ∀ j, j < 4 → w.cell? ⟨b, o + (i * 4 + j), none⟩ = some (.int .i64 (X1 i j)))
    (hX1 : ∀ i, i < len1 → ∀ j, j < 4 → (Lit.int .i64 (X1 i j)).wf = true) :
    Calls Try.prog 4 #[.int .i64 n, .slice A1 len1 cap1] w fun e w' => e = .returned (.bool true) ∧ Below w.heap.size w w' := by
  cases h1 : longB n len1 with
  | true => exact fresh_big n A1 len1 cap1 h1 w
  | false => exact fresh_main n A1 len1 cap1 X1 w h1 hS1 hX1
end Go.Proofs.Ytgckncggcdmaaaa
