/- The walk of ArenaTwice. -/
import Derived.Test.YtgckncggcdmaaaaLaw02
namespace Go.Proofs.Ytgckncggcdmaaaa
open Go.RowKit Go.Maps
set_option maxHeartbeats 1000000 in
set_option maxRecDepth 100000 in
theorem twice_big (n : Int) (A1 : Option Addr) (len1 cap1 : Nat) (A2 : Option Addr) (len2 cap2 : Nat) (h : longB n len1 = true ∨ longB n len2 = true) (w : World) : Calls Try.prog 3 #[.int .i64 n, .slice A1 len1 cap1, .slice A2 len2 cap2] w fun e w' => e = .returned (.bool true) ∧ Below w.heap.size w w' := by
  have L1 := fun w => long_c n A1 len1 cap1 w
  have L2 := fun w => long_c n A2 len2 cap2 w
  cases h1 : longB n len1 with
  | true =>
    rw [h1] at L1
    have L1' := Lib.hid L1
    clear h L1 L2 h1
    go_enter Try.func3, Try.ntmps3
    go_wp2_with fail
    refine (awake_c _).mono ?_
    rintro e w1 ⟨rfl, h1⟩
    have H1 := Lib.hid h1
    clear h1
    go_wp2_with fail
    refine (L1'.out _).mono ?_
    rintro e w2 ⟨rfl, rfl⟩
    go_wp2_with fail
    refine (awake_c _).mono ?_
    rintro e w2 ⟨rfl, h2⟩
    have H2 := Lib.hid (below_step H1.out h2)
    clear h2
    go_wp2_with fail
    go_ret
    exact ⟨rfl, H2.out⟩
  | false =>
    have h2 : longB n len2 = true := h.resolve_left (by rw [h1]; simp)
    rw [h1] at L1
    rw [h2] at L2
    have L1' := Lib.hid L1
    have L2' := Lib.hid L2
    clear h L1 L2 h1 h2
    go_enter Try.func3, Try.ntmps3
    go_wp2_with fail
    refine (awake_c _).mono ?_
    rintro e w1 ⟨rfl, h1⟩
    have H1 := Lib.hid h1
    clear h1
    go_wp2_with fail
    refine (L1'.out _).mono ?_
    rintro e w2 ⟨rfl, rfl⟩
    go_wp2_with fail
    refine (L2'.out _).mono ?_
    rintro e w2 ⟨rfl, rfl⟩
    go_wp2_with fail
    refine (awake_c _).mono ?_
    rintro e w2 ⟨rfl, h2⟩
    have H2 := Lib.hid (below_step H1.out h2)
    clear h2
    go_wp2_with fail
    go_ret
    exact ⟨rfl, H2.out⟩
/-- Three arenas, none of which has a block of another. -/
structure Tri (w : World) (g1 c1 b1 g2 c2 b2 g3 c3 b3 : Nat) (A B C : Ar) (W : World) : Prop where
  a : Ars w g1 c1 b1 none A none W
  b : Ars w g2 c2 b2 none B none W
  c : Ars w g3 c3 b3 none C none W
  ab : Far [g1, c1, b1] [g2, c2, b2]
  ac : Far [g1, c1, b1] [g3, c3, b3]
  bc : Far [g2, c2, b2] [g3, c3, b3]
theorem Ars.far {w W W' : World} {g c b : Nat} {A : Ar} {S : List Nat} (h : Ars w g c b none A none W) (k : Only S W W') (hS : ∀ x ∈ S, w.heap.size ≤ x) (hf : Far [g, c, b] S) : Ars w g c b none A none W' :=
  h.keep k hS (hf g (by simp)) (hf c (by simp)) (hf b (by simp)) (by simp)
theorem Ars.los {w W : World} {g c b : Nat} {A : Ar} (h : Ars w g c b none A none W) : ∀ x ∈ [g, c, b] ++ (none : Option Nat).toList, w.heap.size ≤ x := by
  intro x hx
  simp at hx
  rcases hx with rfl | rfl | rfl
  · exact h.lo.1
  · exact h.lo.2.1
  · exact h.lo.2.2.1
theorem Far.symm {S T : List Nat} (h : Far S T) : Far T S := fun x hx hy => h x hy hx
theorem Far.nil {S T : List Nat} (h : Far S T) : Far S (T ++ (none : Option Nat).toList) := by simpa using h
section
variable {w W W' : World} {g1 c1 b1 g2 c2 b2 g3 c3 b3 : Nat} {A B C : Ar}
theorem Tri.below (h : Tri w g1 c1 b1 g2 c2 b2 g3 c3 b3 A B C W) (k : Below W.heap.size W W') : Tri w g1 c1 b1 g2 c2 b2 g3 c3 b3 A B C W' := ⟨h.a.later k, h.b.later k, h.c.later k, h.ab, h.ac, h.bc⟩
theorem Tri.drew (h : Tri w g1 c1 b1 g2 c2 b2 g3 c3 b3 A B C W) (n : Nat) : Tri w g1 c1 b1 g2 c2 b2 g3 c3 b3 A B C (W.drewN n) := h.below (below_draws (Below.refl _ _) n)
theorem Tri.drew0 (h : Tri w g1 c1 b1 g2 c2 b2 g3 c3 b3 A B C W) : Tri w g1 c1 b1 g2 c2 b2 g3 c3 b3 A B C W.drew := h.drew 1
theorem Tri.alloc1 (h : Tri w g1 c1 b1 g2 c2 b2 g3 c3 b3 A B C W) (hl : A.last ≤ 1000000000) (n : Int) (hn : n ≤ 9223372036854775807) : Calls Try.prog 11 #[.pointer (some ⟨g1, 0, none⟩), .int .i64 n] W fun e w' => e = .returned (.tuple #[.int .i64 (allocF A none n).2.1, .int .i64 (allocF A none n).2.2]) ∧ Tri w g1 c1 b1 g2 c2 b2 g3 c3 b3 (allocF A none n).1.1 B C w' ∧ Only ([g1, c1, b1] ++ (none : Option Nat).toList) W w' :=
  (alloc_o h.a hl n hn).mono fun _ _ ⟨he, h1, h2⟩ => ⟨he, ⟨by rw [allocF_none] at h1; exact h1, h.b.far h2 h.a.los h.ab.symm.nil, h.c.far h2 h.a.los h.ac.symm.nil, h.ab, h.ac, h.bc⟩, h2⟩
theorem Tri.alloc2 (h : Tri w g1 c1 b1 g2 c2 b2 g3 c3 b3 A B C W) (hl : B.last ≤ 1000000000) (n : Int) (hn : n ≤ 9223372036854775807) : Calls Try.prog 11 #[.pointer (some ⟨g2, 0, none⟩), .int .i64 n] W fun e w' => e = .returned (.tuple #[.int .i64 (allocF B none n).2.1, .int .i64 (allocF B none n).2.2]) ∧ Tri w g1 c1 b1 g2 c2 b2 g3 c3 b3 A (allocF B none n).1.1 C w' ∧ Only ([g2, c2, b2] ++ (none : Option Nat).toList) W w' :=
  (alloc_o h.b hl n hn).mono fun _ _ ⟨he, h1, h2⟩ => ⟨he, ⟨h.a.far h2 h.b.los h.ab.nil, by rw [allocF_none] at h1; exact h1, h.c.far h2 h.b.los h.bc.symm.nil, h.ab, h.ac, h.bc⟩, h2⟩
theorem Tri.alloc3 (h : Tri w g1 c1 b1 g2 c2 b2 g3 c3 b3 A B C W) (hl : C.last ≤ 1000000000) (n : Int) (hn : n ≤ 9223372036854775807) : Calls Try.prog 11 #[.pointer (some ⟨g3, 0, none⟩), .int .i64 n] W fun e w' => (∃ v, e = .returned v) ∧ Tri w g1 c1 b1 g2 c2 b2 g3 c3 b3 A B (allocF C none n).1.1 w' ∧ Only ([g3, c3, b3] ++ (none : Option Nat).toList) W w' :=
  (alloc_o h.c hl n hn).mono fun _ _ ⟨he, h1, h2⟩ => ⟨⟨_, he⟩, ⟨h.a.far h2 h.c.los h.ac.nil, h.b.far h2 h.c.los h.bc.nil, by rw [allocF_none] at h1; exact h1, h.ab, h.ac, h.bc⟩, h2⟩
theorem Tri.set1 (h : Tri w g1 c1 b1 g2 c2 b2 g3 c3 b3 A B C W) (id i v : Int) (hid : (Lit.int .i64 id).wf = true) : Calls Try.prog 12 #[.pointer (some ⟨g1, 0, none⟩), .int .i64 id, .int .i64 i, .int .i64 v] W fun e w' => e = .returned (.int .i64 (cellE A.rs id i)) ∧ Tri w g1 c1 b1 g2 c2 b2 g3 c3 b3 (setF A id i v) B C w' ∧ Only ([g1, c1, b1] ++ (none : Option Nat).toList) W w' :=
  (set_o h.a id i v hid).mono fun _ _ ⟨he, h1, h2⟩ => ⟨he, ⟨h1, h.b.far h2 h.a.los h.ab.symm.nil, h.c.far h2 h.a.los h.ac.symm.nil, h.ab, h.ac, h.bc⟩, h2⟩
theorem Tri.set2 (h : Tri w g1 c1 b1 g2 c2 b2 g3 c3 b3 A B C W) (id i v : Int) (hid : (Lit.int .i64 id).wf = true) : Calls Try.prog 12 #[.pointer (some ⟨g2, 0, none⟩), .int .i64 id, .int .i64 i, .int .i64 v] W fun e w' => e = .returned (.int .i64 (cellE B.rs id i)) ∧ Tri w g1 c1 b1 g2 c2 b2 g3 c3 b3 A (setF B id i v) C w' ∧ Only ([g2, c2, b2] ++ (none : Option Nat).toList) W w' :=
  (set_o h.b id i v hid).mono fun _ _ ⟨he, h1, h2⟩ => ⟨he, ⟨h.a.far h2 h.b.los h.ab.nil, h1, h.c.far h2 h.b.los h.bc.symm.nil, h.ab, h.ac, h.bc⟩, h2⟩
theorem Tri.set3 (h : Tri w g1 c1 b1 g2 c2 b2 g3 c3 b3 A B C W) (id i v : Int) (hid : (Lit.int .i64 id).wf = true) : Calls Try.prog 12 #[.pointer (some ⟨g3, 0, none⟩), .int .i64 id, .int .i64 i, .int .i64 v] W fun e w' => (∃ v, e = .returned v) ∧ Tri w g1 c1 b1 g2 c2 b2 g3 c3 b3 A B (setF C id i v) w' ∧ Only ([g3, c3, b3] ++ (none : Option Nat).toList) W w' :=
  (set_o h.c id i v hid).mono fun _ _ ⟨he, h1, h2⟩ => ⟨⟨_, he⟩, ⟨h.a.far h2 h.c.los h.ac.nil, h.b.far h2 h.c.los h.bc.nil, h1, h.ab, h.ac, h.bc⟩, h2⟩
theorem Tri.free1 (h : Tri w g1 c1 b1 g2 c2 b2 g3 c3 b3 A B C W) (id : Int) (hid : (Lit.int .i64 id).wf = true) : Calls Try.prog 13 #[.pointer (some ⟨g1, 0, none⟩), .int .i64 id] W fun e w' => e = .returned (.int .i64 (freeF A none id).2) ∧ Tri w g1 c1 b1 g2 c2 b2 g3 c3 b3 (freeF A none id).1.1 B C w' ∧ Only ([g1, c1, b1] ++ (none : Option Nat).toList) W w' :=
  (free_o h.a id hid).mono fun _ _ ⟨he, h1, h2⟩ => ⟨he, ⟨by rw [freeF_none] at h1; exact h1, h.b.far h2 h.a.los h.ab.symm.nil, h.c.far h2 h.a.los h.ac.symm.nil, h.ab, h.ac, h.bc⟩, h2⟩
theorem Tri.free2 (h : Tri w g1 c1 b1 g2 c2 b2 g3 c3 b3 A B C W) (id : Int) (hid : (Lit.int .i64 id).wf = true) : Calls Try.prog 13 #[.pointer (some ⟨g2, 0, none⟩), .int .i64 id] W fun e w' => e = .returned (.int .i64 (freeF B none id).2) ∧ Tri w g1 c1 b1 g2 c2 b2 g3 c3 b3 A (freeF B none id).1.1 C w' ∧ Only ([g2, c2, b2] ++ (none : Option Nat).toList) W w' :=
  (free_o h.b id hid).mono fun _ _ ⟨he, h1, h2⟩ => ⟨he, ⟨h.a.far h2 h.b.los h.ab.nil, by rw [freeF_none] at h1; exact h1, h.c.far h2 h.b.los h.bc.symm.nil, h.ab, h.ac, h.bc⟩, h2⟩
theorem blk_only3 {bx : Nat} {t : TypeId} {cs : Array Value} {W0 : World} {g c b : Nat} (hb : Blk W bx t cs) (k : Only ([g, c, b] ++ (none : Option Nat).toList) W W') (hx : W0.heap.size ≤ bx) (h1 : g < W0.heap.size) (h2 : c < W0.heap.size) (h3 : b < W0.heap.size) : Blk W' bx t cs := hb.only k (by simp; omega)
end
set_option maxHeartbeats 16000000 in
set_option maxRecDepth 100000 in
theorem twice_main (n : Int) (A1 : Option Addr) (len1 cap1 : Nat) (X1 : Nat → Nat → Int) (A2 : Option Addr) (len2 cap2 : Nat) (X2 : Nat → Nat → Int) (w : World) (hb1 : longB n len1 = false) (hb2 : longB n len2 = false)
    (hS1 : 0 < len1 → ∃ b o, A1 = some ⟨b, o, none⟩ ∧ b < w.heap.size ∧ ∀ i, i < len1 → ∀ j, j < 4 → w.cell? ⟨b, o + (i * 4 + j), none⟩ = some (.int .i64 (X1 i j)))
    (hS2 : 0 < len2 → ∃ b o, A2 = some ⟨b, o, none⟩ ∧ b < w.heap.size ∧ ∀ i, i < len2 → ∀ j, j < 4 → w.cell? ⟨b, o + (i * 4 + j), none⟩ = some (.int .i64 (X2 i j)))
    (hX1 : ∀ i, i < len1 → ∀ j, j < 4 → (Lit.int .i64 (X1 i j)).wf = true) (hX2 : ∀ i, i < len2 → ∀ j, j < 4 → (Lit.int .i64 (X2 i j)).wf = true) :
    Calls Try.prog 3 #[.int .i64 n, .slice A1 len1 cap1, .slice A2 len2 cap2] w fun e w' => e = .returned (.bool true) ∧ Below w.heap.size w w' := by
  have L1 := fun w => long_c n A1 len1 cap1 w
  have L2 := fun w => long_c n A2 len2 cap2 w
  rw [hb1] at L1
  rw [hb2] at L2
  have L1' := Lib.hid L1
  have L2' := Lib.hid L2
  have hl1 : len1 ≤ 200 := by unfold longB at hb1; simp at hb1; omega
  have hl2 : len2 ≤ 200 := by unfold longB at hb2; simp at hb2; omega
  have C1 := Lib.hid hS1
  have C2 := Lib.hid hS2
  have X1W := Lib.hid hX1
  have X2W := Lib.hid hX2
  clear L1 L2 hb1 hb2 hS1 hS2 hX1 hX2
  go_enter Try.func3, Try.ntmps3
  go_wp2_with fail
  refine (awake_c _).mono ?_
  rintro e w1 ⟨rfl, h1⟩
  have H1 := Lib.hid h1
  clear h1
  go_wp2_with fail
  refine (L1'.out _).mono ?_
  rintro e w2 ⟨rfl, rfl⟩
  go_wp2_with fail
  refine (L2'.out _).mono ?_
  rintro e w2 ⟨rfl, rfl⟩
  go_wp2_with fail
  refine (arnew_a (w := w) none none n w1 H1.out trivial (by simp)).mono ?_
  rintro e w2 ⟨g1, c1, b1, rfl, m1, m2, m3, a1, k1⟩
  have I1 := Lib.hid a1
  have K1 := Lib.hid k1
  have P1 := Lib.hid (show g1 < w2.heap.size ∧ c1 < w2.heap.size ∧ b1 < w2.heap.size from ⟨a1.ar.head.lt, a1.ar.rows.lt, a1.ar.map.lt⟩)
  clear a1 k1 m1 m2 m3
  go_wp2_with fail
  refine (arnew_a (w := w) none none n w2 I1.out.below trivial (by simp)).mono ?_
  rintro e w3 ⟨g2, c2, b2, rfl, m1, m2, m3, a2, k2⟩
  have I2 := Lib.hid a2
  have K2 := Lib.hid k2
  have P2 := Lib.hid (show g2 < w3.heap.size ∧ c2 < w3.heap.size ∧ b2 < w3.heap.size from ⟨a2.ar.head.lt, a2.ar.rows.lt, a2.ar.map.lt⟩)
  have Q2 := Lib.hid (And.intro m1 (And.intro m2 m3))
  clear a2 k2 m1 m2 m3
  go_wp2_with fail
  refine (arnew_a (w := w) none none n w3 I2.out.below trivial (by simp)).mono ?_
  rintro e w4 ⟨g3, c3, b3, rfl, m1, m2, m3, a3, k3⟩
  have T0 := Lib.hid (show Tri w g1 c1 b1 g2 c2 b2 g3 c3 b3 (Ar.new (szAr n)) (Ar.new (szAr n)) (Ar.new (szAr n)) w4 from by
    have p1 := P1.out
    have p2 := P2.out
    have q2 := Q2.out
    have s2 := K2.out.size
    refine ⟨(I1.out.later K2.out).later k3, I2.out.later k3, a3, ?_, ?_, ?_⟩ <;> (intro x hx hy; simp at hx hy; omega))
  have P4 := show g1 < w4.heap.size ∧ c1 < w4.heap.size ∧ b1 < w4.heap.size ∧ g2 < w4.heap.size ∧ c2 < w4.heap.size ∧ b2 < w4.heap.size ∧ g3 < w4.heap.size ∧ c3 < w4.heap.size ∧ b3 < w4.heap.size from
    ⟨T0.out.a.ar.head.lt, T0.out.a.ar.rows.lt, T0.out.a.ar.map.lt, T0.out.b.ar.head.lt, T0.out.b.ar.rows.lt, T0.out.b.ar.map.lt, T0.out.c.ar.head.lt, T0.out.c.ar.rows.lt, T0.out.c.ar.map.lt⟩
  clear a3 k3 m1 m2 m3 I1 I2 K1 K2 P1 P2 Q2
  go_wp2_with fail
  go_loopw [37] (fun i wr => ∃ (k : Nat) (A C : Ar), k ≤ len1 ∧ i = .int .i64 k ∧ Tri w g1 c1 b1 g2 c2 b2 g3 c3 b3 A A C wr ∧ A.last ≤ k ∧ C.last ≤ k ∧ w4.heap.size ≤ wr.heap.size) (fun i _ => len1 - (intOf i).toNat)
  case atStart => exact ⟨0, _, _, by omega, rfl, T0.out, Nat.zero_le _, Nat.zero_le _, Nat.le_refl _⟩
  case round =>
    obtain ⟨k, A, C, hk, rfl, hT, hA0, hC0, s4⟩ := hrel
    have T1 := Lib.hid hT
    clear hT
    by_cases hlt : k < len1
    · obtain ⟨bo, oo, rfl, hbo, hcell⟩ := C1.out (by omega)
      have d0 : wr.cell? ⟨bo, oo + k * 4, none⟩ = some (.int .i64 (X1 k 0)) := (T1.out.a.below.cell (p := ⟨bo, _, none⟩) hbo).trans (hcell k hlt 0 (by omega))
      have d1 : wr.cell? ⟨bo, oo + k * 4 + 1, none⟩ = some (.int .i64 (X1 k 1)) := (T1.out.a.below.cell (p := ⟨bo, _, none⟩) hbo).trans (hcell k hlt 1 (by omega))
      have d2 : wr.cell? ⟨bo, oo + k * 4 + 2, none⟩ = some (.int .i64 (X1 k 2)) := (T1.out.a.below.cell (p := ⟨bo, _, none⟩) hbo).trans (hcell k hlt 2 (by omega))
      have d3 : wr.cell? ⟨bo, oo + k * 4 + 3, none⟩ = some (.int .i64 (X1 k 3)) := (T1.out.a.below.cell (p := ⟨bo, _, none⟩) hbo).trans (hcell k hlt 3 (by omega))
      have W1 := Lib.hid (X1W.out k hlt 1 (by omega))
      have W2 := Lib.hid (wf_le (X1W.out k hlt 2 (by omega)))
      have t0 : decide (k < len1) = true := by simp; omega
      have t2 : (k : Int) < (len1 : Nat) := by omega
      clear hcell
      go_upto_region 7 with fail
      have B2 := Lib.hid (Blk.made wr 28 #[.int .i64 (X1 k 0), .int .i64 (X1 k 1), .int .i64 (X1 k 2), .int .i64 (X1 k 3)])
      have T2 := Lib.hid (T1.out.below (below_alloc (Below.refl _ wr) (.cells #[.int .i64 (X1 k 0), .int .i64 (X1 k 1), .int .i64 (X1 k 2), .int .i64 (X1 k 3)] 28)))
      have sx : wr.heap.size < (wr.alloc (.cells #[.int .i64 (X1 k 0), .int .i64 (X1 k 1), .int .i64 (X1 k 2), .int .i64 (X1 k 3)] 28)).heap.size := by simp
      clear d0 d1 d2 d3 T1
      generalize wr.alloc (.cells #[.int .i64 (X1 k 0), .int .i64 (X1 k 1), .int .i64 (X1 k 2), .int .i64 (X1 k 3)] 28) = x2 at *
      generalize wr.heap.size = bx at *
      go_upto_if 45 with fail
      go_cut [] from 45 to 69 (fun wx => ∃ C' : Ar, Tri w g1 c1 b1 g2 c2 b2 g3 c3 b3 A A C' wx ∧ Blk wx bx 28 #[.int .i64 (X1 k 0), .int .i64 (X1 k 1), .int .i64 (X1 k 2), .int .i64 (X1 k 3)] ∧ C'.last ≤ k + 1 ∧ x2.heap.size ≤ wx.heap.size)
      case first =>
        by_cases hl : k < len2
        · have t3 : decide (k < len2) = true := by simp; omega
          have t4 : (k : Int) < (len2 : Nat) := by omega
          obtain ⟨bp, op, rfl, hbp, hcell⟩ := C2.out (by omega)
          have z2 : x2.cell? ⟨bp, op + k * 4 + 2, none⟩ = some (.int .i64 (X2 k 2)) := (T2.out.a.below.cell (p := ⟨bp, _, none⟩) hbp).trans (hcell k hl 2 (by omega))
          have HC := Lib.hid hcell
          have V2 := Lib.hid (wf_le (X2W.out k hl 2 (by omega)))
          have V1 := Lib.hid (X2W.out k hl 1 (by omega))
          clear hcell
          go_wp2_with fail
          refine (T2.out.alloc3 (by omega) (X2 k 2) V2.out).mono ?_
          rintro e x3 ⟨⟨v3, rfl⟩, hT, hO⟩
          have T3 := Lib.hid hT
          have B3 := Lib.hid (B2.out.only hO (by simp; omega))
          have LC := Lib.hid (show (allocF C none (X2 k 2)).1.1.last ≤ k + 1 from Nat.le_trans (allocF_last _ _ _) (by omega))
          have sz3 := hO.size
          clear hT hO T2 B2 z2
          have e1 : ∀ y : Ext x3, y.v.cell? ⟨bp, op + k * 4 + 1, none⟩ = some (.int .i64 (X2 k 1)) := fun y => y.cell ((T3.out.a.below.cell (p := ⟨bp, _, none⟩) hbp).trans (HC.out k hl 1 (by omega)))
          have e2 : ∀ y : Ext x3, y.v.cell? ⟨bp, op + k * 4 + 2, none⟩ = some (.int .i64 (X2 k 2)) := fun y => y.cell ((T3.out.a.below.cell (p := ⟨bp, _, none⟩) hbp).trans (HC.out k hl 2 (by omega)))
          have e3 : ∀ y : Ext x3, y.v.cell? ⟨bp, op + k * 4 + 3, none⟩ = some (.int .i64 (X2 k 3)) := fun y => y.cell ((T3.out.a.below.cell (p := ⟨bp, _, none⟩) hbp).trans (HC.out k hl 3 (by omega)))
          go_upto_region 9 with fail
          refine wp_region_ext_tail 16 (by kernel_rfl) (by kernel_rfl) ?_
          simp only [List.take_succ_cons, List.take_zero, List.drop_succ_cons, List.drop_zero]
          repeat (go_big_quiet_step (fail))
          refine wpQuiet_nil ?_
          intro _ hw'
          obtain ⟨xq, hw''⟩ := hw'
          subst hw''
          have hb := xq.h
          clear e1 e2 e3
          generalize xq.v = x4 at *
          have T4 := Lib.hid (T3.out.below hb)
          have B4 := Lib.hid (B3.out.below hb)
          have sz4 := hb.size
          clear hb T3 B3
          go_wp2_with fail
          refine (T4.out.set3 (X2 k 1) (X2 k 2) (X2 k 3) V1.out).mono ?_
          rintro e x5 ⟨⟨v5, rfl⟩, hT, hO⟩
          have T5 := Lib.hid hT
          have B5 := Lib.hid (B4.out.only hO (by simp; omega))
          have sz5 := hO.size
          clear hT hO T4 B4
          go_wp2_with fail
          go_meet
          exact ⟨_, T5.out, B5.out, by rw [setF_last]; exact LC.out, by omega⟩
        · have t3 : decide (k < len2) = false := by simp; omega
          go_wp2_with fail
          go_meet
          exact ⟨_, T2.out, B2.out, by omega, Nat.le_refl _⟩
      case rest =>
        obtain ⟨C', hT, hB, hC1, hs5⟩ := hcut
        rename World => x3
        have T3 := Lib.hid hT
        have B3 := Lib.hid hB
        have LC := Lib.hid hC1
        clear hT hB hC1 T2 B2
        have f2 := B3.out.cell 2
        simp at f2
        go_wp2_with fail
        refine (T3.out.alloc1 (by omega) (X1 k 2) W2.out).mono ?_
        rintro e x4 ⟨rfl, hT, hO⟩
        have T4 := Lib.hid hT
        have B4 := Lib.hid (B3.out.only hO (by simp; omega))
        have sz4 := hO.size
        have f2 := B4.out.cell 2
        simp at f2
        clear hT hO T3 B3
        go_wp2_with fail
        refine (T4.out.alloc2 (by omega) (X1 k 2) W2.out).mono ?_
        rintro e x5 ⟨rfl, hT, hO⟩
        have T5 := Lib.hid hT
        have B5 := Lib.hid (B4.out.only hO (by simp; omega))
        have sz5 := hO.size
        have LA := Lib.hid (show (allocF A none (X1 k 2)).1.1.last ≤ k + 1 from Nat.le_trans (allocF_last _ _ _) (by omega))
        have XW := Lib.hid (allocF_wf A none (X1 k 2) (by omega))
        clear hT hO T4 B4 f2
        generalize (allocF A none (X1 k 2)).2.1 = xi at *
        generalize (allocF A none (X1 k 2)).2.2 = xe at *
        generalize (allocF A none (X1 k 2)).1.1 = A' at *
        have h4 : w4.heap.size ≤ bx := s4
        have b5 : Blk x5.drew bx 28 #[.int .i64 (X1 k 0), .int .i64 (X1 k 1), .int .i64 (X1 k 2), .int .i64 (X1 k 3)] := B5.out
        have T5 := Lib.hid T5.out.drew0
        have B5 := Lib.hid b5
        have sz5' : x5.heap.size ≤ x5.drew.heap.size := Nat.le_refl _
        go_upto_region 12 with fail
        by_cases htwo : X1 k 0 = 2
        · have t5 : (X1 k 0 == 2) = true := by simpa using htwo
          refine wp_region_held_drew (S := fun w' => Blk w' bx 28 #[.int .i64 (X1 k 0), .int .i64 (X1 k 1), .int .i64 (X1 k 2), .int .i64 (X1 k 3)]) (by kernel_rfl) B5.out (fun hHeld => ?_)
          generalize x5.drew = x5 at *
          refine' wpAnyH_take (i := 0) (v := _) rfl (by kernel_rfl) (by kernel_rfl) (by kernel_rfl) (fun _ _ _ h => h) (Or.inl ⟨by kernel_rfl, ?hy0t⟩) (by assumption) ?r0t
          case hy0t => (intro w hSw; (try dsimp only at hSw); go_simp; with_reducible rfl)
          try simp only [Act.put]
          refine' wpAnyH_take (i := 1) (v := _) rfl (by kernel_rfl) (by kernel_rfl) (by kernel_rfl) (fun _ _ _ h => h) (Or.inl ⟨by kernel_rfl, ?hy1t⟩) (by assumption) ?r1t
          case hy1t => (intro w hSw; (try dsimp only at hSw); go_simp; with_reducible rfl)
          try simp only [Act.put]
          refine' wpAnyH_take (i := 2) (v := _) rfl (by kernel_rfl) (by kernel_rfl) (by kernel_rfl) (fun _ _ _ h => h) (Or.inl ⟨by kernel_rfl, ?hy2t⟩) (by assumption) ?r2t
          case hy2t => (intro w hSw; (try dsimp only at hSw); go_simp; with_reducible rfl)
          try simp only [Act.put]
          refine' wpAnyH_take (i := 3) (v := _) rfl (by kernel_rfl) (by kernel_rfl) (by kernel_rfl) (fun _ _ _ h => h) (Or.inl ⟨by kernel_rfl, ?hy3t⟩) (by assumption) ?r3t
          case hy3t => (intro w hSw; (try dsimp only at hSw); go_simp; with_reducible rfl)
          try simp only [Act.put]
          refine' wpAnyH_take (i := 4) (v := _) rfl (by kernel_rfl) (by kernel_rfl) (by kernel_rfl) (fun _ _ _ h => h) (Or.inl ⟨by kernel_rfl, ?hy4t⟩) (by assumption) ?r4t
          case hy4t => (intro w hSw; (try dsimp only at hSw); go_simp; with_reducible rfl)
          try simp only [Act.put]
          refine' wpAnyH_take (i := 5) (v := _) rfl (by kernel_rfl) (by kernel_rfl) (by kernel_rfl) (fun _ _ _ h => h) (Or.inl ⟨by kernel_rfl, ?hy5t⟩) (by assumption) ?r5t
          case hy5t => (intro w hSw; (try dsimp only at hSw); go_simp; with_reducible rfl)
          try simp only [Act.put]
          refine' wpAnyH_take (i := 6) (v := _) rfl (by kernel_rfl) (by kernel_rfl) (by kernel_rfl) (fun _ _ _ h => h) (Or.inl ⟨by kernel_rfl, ?hy6t⟩) (by assumption) ?r6t
          case hy6t => (intro w hSw; (try dsimp only at hSw); go_simp; with_reducible rfl)
          try simp only [Act.put]
          refine' wpAnyH_take (i := 7) (v := _) rfl (by kernel_rfl) (by kernel_rfl) (by kernel_rfl) (fun _ _ _ h => h) (Or.inl ⟨by kernel_rfl, ?hy7t⟩) (by assumption) ?r7t
          case hy7t => (intro w hSw; (try dsimp only at hSw); go_simp; with_reducible rfl)
          try simp only [Act.put]
          refine' wpAnyH_take (i := 8) (v := _) rfl (by kernel_rfl) (by kernel_rfl) (by kernel_rfl) (fun _ _ _ h => h) (Or.inl ⟨by kernel_rfl, ?hy8t⟩) (by assumption) ?r8t
          case hy8t => (intro w hSw; (try dsimp only at hSw); go_simp; with_reducible rfl)
          try simp only [Act.put]
          refine' wpAnyH_take (i := 9) (v := _) rfl (by kernel_rfl) (by kernel_rfl) (by kernel_rfl) (fun _ _ _ h => h) (Or.inl ⟨by kernel_rfl, ?hy9t⟩) (by assumption) ?r9t
          case hy9t => (intro w hSw; (try dsimp only at hSw); go_simp; with_reducible rfl)
          try simp only [Act.put]
          refine' wpAnyH_take (i := 10) (v := _) rfl (by kernel_rfl) (by kernel_rfl) (by kernel_rfl) (fun _ _ _ h => h) (Or.inl ⟨by kernel_rfl, ?hy10t⟩) (by assumption) ?r10t
          case hy10t => (intro w hSw; (try dsimp only at hSw); go_simp; with_reducible rfl)
          try simp only [Act.put]
          refine' wpAnyH_take (i := 11) (v := _) rfl (by kernel_rfl) (by kernel_rfl) (by kernel_rfl) (fun _ _ _ h => h) (Or.inl ⟨by kernel_rfl, ?hy11t⟩) (by assumption) ?r11t
          case hy11t => (intro w hSw; have q0 := Blk.cell hSw 0; have q1 := Blk.cell hSw 1; have q2 := Blk.cell hSw 2; have q3 := Blk.cell hSw 3; simp at q0 q1 q2 q3; go_simp; with_reducible rfl)
          try simp only [Act.put]
          refine' wpAnyH_take (i := 12) (v := _) rfl (by kernel_rfl) (by kernel_rfl) (by kernel_rfl) (fun _ _ _ h => h) (Or.inl ⟨by kernel_rfl, ?hy12t⟩) (by assumption) ?r12t
          case hy12t => (intro w hSw; (try dsimp only at hSw); go_simp; with_reducible rfl)
          try simp only [Act.put]
          refine' wpAnyH_take (i := 13) (v := _) rfl (by kernel_rfl) (by kernel_rfl) (by kernel_rfl) (fun _ _ _ h => h) (Or.inl ⟨by kernel_rfl, ?hy13t⟩) (by assumption) ?r13t
          case hy13t => (intro w hSw; have q0 := Blk.cell hSw 0; have q1 := Blk.cell hSw 1; have q2 := Blk.cell hSw 2; have q3 := Blk.cell hSw 3; simp at q0 q1 q2 q3; go_simp; with_reducible rfl)
          try simp only [Act.put]
          refine' wpAnyH_take (i := 14) (v := _) rfl (by kernel_rfl) (by kernel_rfl) (by kernel_rfl) (fun _ _ _ h => h) (Or.inl ⟨by kernel_rfl, ?hy14t⟩) (by assumption) ?r14t
          case hy14t => (intro w hSw; (try dsimp only at hSw); go_simp; with_reducible rfl)
          try simp only [Act.put]
          refine' wpAnyH_take (i := 15) (v := _) rfl (by kernel_rfl) (by kernel_rfl) (by kernel_rfl) (fun _ _ _ h => h) (Or.inl ⟨by kernel_rfl, ?hy15t⟩) (by assumption) ?r15t
          case hy15t => (intro w hSw; have q0 := Blk.cell hSw 0; have q1 := Blk.cell hSw 1; have q2 := Blk.cell hSw 2; have q3 := Blk.cell hSw 3; simp at q0 q1 q2 q3; go_simp; with_reducible rfl)
          try simp only [Act.put]
          refine' wpAnyH_take (i := 17) (v := _) rfl (by kernel_rfl) (by kernel_rfl) (by kernel_rfl) (fun _ _ _ h => h) (Or.inl ⟨by kernel_rfl, ?hy17t⟩) (by assumption) ?r17t
          case hy17t => (intro w hSw; (try dsimp only at hSw); go_simp; with_reducible rfl)
          try simp only [Act.put]
          refine' wpAnyH_take (i := 18) (v := _) rfl (by kernel_rfl) (by kernel_rfl) (by kernel_rfl) (fun _ _ _ h => h) (Or.inl ⟨by kernel_rfl, ?hy18t⟩) (by assumption) ?r18t
          case hy18t => (intro w hSw; (try dsimp only at hSw); go_simp; with_reducible rfl)
          try simp only [Act.put]
          refine' wpAnyH_take (i := 19) (v := _) rfl (by kernel_rfl) (by kernel_rfl) (by kernel_rfl) (fun _ _ _ h => h) (Or.inl ⟨by kernel_rfl, ?hy19t⟩) (by assumption) ?r19t
          case hy19t => (intro w hSw; have q0 := Blk.cell hSw 0; have q1 := Blk.cell hSw 1; have q2 := Blk.cell hSw 2; have q3 := Blk.cell hSw 3; simp at q0 q1 q2 q3; go_simp; with_reducible rfl)
          try simp only [Act.put]
          refine' wpAnyH_take (i := 20) (v := _) rfl (by kernel_rfl) (by kernel_rfl) (by kernel_rfl) (fun _ _ _ h => h) (Or.inl ⟨by kernel_rfl, ?hy20t⟩) (by assumption) ?r20t
          case hy20t => (intro w hSw; (try dsimp only at hSw); go_simp; with_reducible rfl)
          try simp only [Act.put]
          refine' wpAnyH_take (i := 21) (v := _) rfl (by kernel_rfl) (by kernel_rfl) (by kernel_rfl) (fun _ _ _ h => h) (Or.inl ⟨by kernel_rfl, ?hy21t⟩) (by assumption) ?r21t
          case hy21t => (intro w hSw; have q0 := Blk.cell hSw 0; have q1 := Blk.cell hSw 1; have q2 := Blk.cell hSw 2; have q3 := Blk.cell hSw 3; simp at q0 q1 q2 q3; go_simp; with_reducible rfl)
          try simp only [Act.put]
          refine' wpAnyH_take (i := 22) (v := _) rfl (by kernel_rfl) (by kernel_rfl) (by kernel_rfl) (fun _ _ _ h => h) (Or.inl ⟨by kernel_rfl, ?hy22t⟩) (by assumption) ?r22t
          case hy22t => (intro w hSw; (try dsimp only at hSw); go_simp; with_reducible rfl)
          try simp only [Act.put]
          refine' wpAnyH_take (i := 23) (v := _) rfl (by kernel_rfl) (by kernel_rfl) (by kernel_rfl) (fun _ _ _ h => h) (Or.inl ⟨by kernel_rfl, ?hy23t⟩) (by assumption) ?r23t
          case hy23t => (intro w hSw; have q0 := Blk.cell hSw 0; have q1 := Blk.cell hSw 1; have q2 := Blk.cell hSw 2; have q3 := Blk.cell hSw 3; simp at q0 q1 q2 q3; go_simp; with_reducible rfl)
          try simp only [Act.put]
          refine wpAnyH_ready (rs := [16]) (by kernel_rfl) (by simp) (AllReadyH.cons rfl (fun K' hK => ?_) AllReadyH.nil)
          go_simp
          refine (T5.out.set1 (X1 k 1) (X1 k 3) (X1 k 2) W1.out).mono ?_
          rintro e x6 ⟨rfl, hT, hO⟩
          have T6 := Lib.hid hT
          have B6 := Lib.hid (B5.out.only hO (by simp; omega))
          clear hT hO T5 B5
          refine hK.out _ _ B6.out (fun hHeld => ?_)
          clear hK K'
          refine wpAnyH_ready (rs := [24]) (by kernel_rfl) (by simp) (AllReadyH.cons rfl (fun K' hK => ?_) AllReadyH.nil)
          go_simp
          refine (T6.out.set2 (X1 k 1) (X1 k 3) (X1 k 2) W1.out).mono ?_
          rintro e x7 ⟨rfl, hT, hO⟩
          have T7 := Lib.hid hT
          have B7 := Lib.hid (B6.out.only hO (by simp; omega))
          clear hT hO T6 B6
          refine hK.out _ _ B7.out (fun hHeld => ?_)
          clear hK K'
          refine' wpAnyH_take (i := 25) (v := _) rfl (by kernel_rfl) (by kernel_rfl) (by kernel_rfl) (fun _ _ _ h => h) (Or.inl ⟨by kernel_rfl, ?hy25t⟩) (by assumption) ?r25t
          case hy25t => (intro w hSw; (try dsimp only at hSw); go_simp; with_reducible rfl)
          try simp only [Act.put]
          refine' wpAnyH_take (i := 26) (v := _) rfl (by kernel_rfl) (by kernel_rfl) (by kernel_rfl) (fun _ _ _ h => h) (Or.inl ⟨by kernel_rfl, ?hy26t⟩) (by assumption) ?r26t
          case hy26t => (intro w hSw; (try dsimp only at hSw); go_simp; with_reducible rfl)
          try simp only [Act.put]
          refine' wpAnyH_take (i := 27) (v := _) rfl (by kernel_rfl) (by kernel_rfl) (by kernel_rfl) (fun _ _ _ h => h) (Or.inl ⟨by kernel_rfl, ?hy27t⟩) (by assumption) ?r27t
          case hy27t => (intro w hSw; (try dsimp only at hSw); go_simp; with_reducible rfl)
          try simp only [Act.put]
          refine' wpAnyH_take (i := 28) (v := _) rfl (by kernel_rfl) (by kernel_rfl) (by kernel_rfl) (fun _ _ _ h => h) (Or.inl ⟨by kernel_rfl, ?hy28t⟩) (by assumption) ?r28t
          case hy28t => (intro w hSw; (try dsimp only at hSw); go_simp; with_reducible rfl)
          try simp only [Act.put]
          refine' wpAnyH_take (i := 29) (v := _) rfl (by kernel_rfl) (by kernel_rfl) (by kernel_rfl) (fun _ _ _ h => h) (Or.inl ⟨by kernel_rfl, ?hy29t⟩) (by assumption) ?r29t
          case hy29t => (intro w hSw; have q0 := Blk.cell hSw 0; have q1 := Blk.cell hSw 1; have q2 := Blk.cell hSw 2; have q3 := Blk.cell hSw 3; simp at q0 q1 q2 q3; go_simp; with_reducible rfl)
          try simp only [Act.put]
          refine' wpAnyH_take (i := 30) (v := _) rfl (by kernel_rfl) (by kernel_rfl) (by kernel_rfl) (fun _ _ _ h => h) (Or.inl ⟨by kernel_rfl, ?hy30t⟩) (by assumption) ?r30t
          case hy30t => (intro w hSw; (try dsimp only at hSw); go_simp; with_reducible rfl)
          try simp only [Act.put]
          refine' wpAnyH_take (i := 31) (v := _) rfl (by kernel_rfl) (by kernel_rfl) (by kernel_rfl) (fun _ _ _ h => h) (Or.inl ⟨by kernel_rfl, ?hy31t⟩) (by assumption) ?r31t
          case hy31t => (intro w hSw; (try dsimp only at hSw); go_simp; with_reducible rfl)
          try simp only [Act.put]
          refine' wpAnyH_take (i := 32) (v := _) rfl (by kernel_rfl) (by kernel_rfl) (by kernel_rfl) (fun _ _ _ h => h) (Or.inl ⟨by kernel_rfl, ?hy32t⟩) (by assumption) ?r32t
          case hy32t => (intro w hSw; (try dsimp only at hSw); go_simp; with_reducible rfl)
          try simp only [Act.put]
          refine' wpAnyH_take (i := 33) (v := _) rfl (by kernel_rfl) (by kernel_rfl) (by kernel_rfl) (fun _ _ _ h => h) (Or.inl ⟨by kernel_rfl, ?hy33t⟩) (by assumption) ?r33t
          case hy33t => (intro w hSw; (try dsimp only at hSw); go_simp; with_reducible rfl)
          try simp only [Act.put]
          refine' wpAnyH_take (i := 34) (v := _) rfl (by kernel_rfl) (by kernel_rfl) (by kernel_rfl) (fun _ _ _ h => h) (Or.inl ⟨by kernel_rfl, ?hy34t⟩) (by assumption) ?r34t
          case hy34t => (intro w hSw; have q0 := Blk.cell hSw 0; have q1 := Blk.cell hSw 1; have q2 := Blk.cell hSw 2; have q3 := Blk.cell hSw 3; simp at q0 q1 q2 q3; go_simp; with_reducible rfl)
          try simp only [Act.put]
          refine' wpAnyH_take (i := 36) (v := _) rfl (by kernel_rfl) (by kernel_rfl) (by kernel_rfl) (fun _ _ _ h => h) (Or.inl ⟨by kernel_rfl, ?hy36t⟩) (by assumption) ?r36t
          case hy36t => (intro w hSw; (try dsimp only at hSw); go_simp; with_reducible rfl)
          try simp only [Act.put]
          refine' wpAnyH_take (i := 37) (v := _) rfl (by kernel_rfl) (by kernel_rfl) (by kernel_rfl) (fun _ _ _ h => h) (Or.inl ⟨by kernel_rfl, ?hy37t⟩) (by assumption) ?r37t
          case hy37t => (intro w hSw; (try dsimp only at hSw); go_simp; with_reducible rfl)
          try simp only [Act.put]
          refine' wpAnyH_take (i := 38) (v := _) rfl (by kernel_rfl) (by kernel_rfl) (by kernel_rfl) (fun _ _ _ h => h) (Or.inl ⟨by kernel_rfl, ?hy38t⟩) (by assumption) ?r38t
          case hy38t => (intro w hSw; have q0 := Blk.cell hSw 0; have q1 := Blk.cell hSw 1; have q2 := Blk.cell hSw 2; have q3 := Blk.cell hSw 3; simp at q0 q1 q2 q3; go_simp; with_reducible rfl)
          try simp only [Act.put]
          refine wpAnyH_ready (rs := [35]) (by kernel_rfl) (by simp) (AllReadyH.cons rfl (fun K' hK => ?_) AllReadyH.nil)
          go_simp
          refine (T7.out.free1 (X1 k 1) W1.out).mono ?_
          rintro e x8 ⟨rfl, hT, hO⟩
          have T8 := Lib.hid hT
          have B8 := Lib.hid (B7.out.only hO (by simp; omega))
          clear hT hO T7 B7
          refine hK.out _ _ B8.out (fun hHeld => ?_)
          clear hK K'
          refine wpAnyH_ready (rs := [39]) (by kernel_rfl) (by simp) (AllReadyH.cons rfl (fun K' hK => ?_) AllReadyH.nil)
          go_simp
          refine (T8.out.free2 (X1 k 1) W1.out).mono ?_
          rintro e x9 ⟨rfl, hT, hO⟩
          have T9 := Lib.hid hT
          have B9 := Lib.hid (B8.out.only hO (by simp; omega))
          clear hT hO T8 B8
          refine hK.out _ _ B9.out (fun hHeld => ?_)
          clear hK K'
          refine' wpAnyH_take (i := 40) (v := _) rfl (by kernel_rfl) (by kernel_rfl) (by kernel_rfl) (fun _ _ _ h => h) (Or.inl ⟨by kernel_rfl, ?hy40t⟩) (by assumption) ?r40t
          case hy40t => (intro w hSw; (try dsimp only at hSw); go_simp; with_reducible rfl)
          try simp only [Act.put]
          refine' wpAnyH_take (i := 41) (v := _) rfl (by kernel_rfl) (by kernel_rfl) (by kernel_rfl) (fun _ _ _ h => h) (Or.inl ⟨by kernel_rfl, ?hy41t⟩) (by assumption) ?r41t
          case hy41t => (intro w hSw; (try dsimp only at hSw); go_simp; with_reducible rfl)
          try simp only [Act.put]
          refine' wpAnyH_take (i := 42) (v := _) rfl (by kernel_rfl) (by kernel_rfl) (by kernel_rfl) (fun _ _ _ h => h) (Or.inl ⟨by kernel_rfl, ?hy42t⟩) (by assumption) ?r42t
          case hy42t => (intro w hSw; (try dsimp only at hSw); go_simp; with_reducible rfl)
          try simp only [Act.put]
          refine' wpAnyH_take (i := 43) (v := _) rfl (by kernel_rfl) (by kernel_rfl) (by kernel_rfl) (fun _ _ _ h => h) (Or.inl ⟨by kernel_rfl, ?hy43t⟩) (by assumption) ?r43t
          case hy43t => (intro w hSw; (try dsimp only at hSw); go_simp; with_reducible rfl)
          try simp only [Act.put]
          refine' wpAnyH_take (i := 44) (v := _) rfl (by kernel_rfl) (by kernel_rfl) (by kernel_rfl) (fun _ _ _ h => h) (Or.inl ⟨by kernel_rfl, ?hy44t⟩) (by assumption) ?r44t
          case hy44t => (intro w hSw; (try dsimp only at hSw); go_simp; with_reducible rfl)
          try simp only [Act.put]
          refine' wpAnyH_take (i := 46) (v := _) rfl (by kernel_rfl) (by kernel_rfl) (by kernel_rfl) (fun _ _ _ h => h) (Or.inl ⟨by kernel_rfl, ?hy46t⟩) (by assumption) ?r46t
          case hy46t => (intro w hSw; (try dsimp only at hSw); go_simp; with_reducible rfl)
          try simp only [Act.put]
          refine wpAnyH_ready (rs := [45]) (by kernel_rfl) (by simp) (AllReadyH.cons rfl (fun K' hK => ?_) AllReadyH.nil)
          go_simp
          refine (left_c _ _ _ _ _ _ T9.out.a.ar).mono ?_
          rintro e xx ⟨rfl, rfl⟩
          refine hK.out _ _ B9.out (fun hHeld => ?_)
          clear hK K'
          refine wpAnyH_ready (rs := [47]) (by kernel_rfl) (by simp) (AllReadyH.cons rfl (fun K' hK => ?_) AllReadyH.nil)
          go_simp
          refine (left_c _ _ _ _ _ _ T9.out.b.ar).mono ?_
          rintro e xx ⟨rfl, rfl⟩
          refine hK.out _ _ B9.out (fun hHeld => ?_)
          clear hK K'
          refine' wpAnyH_take (i := 48) (v := _) rfl (by kernel_rfl) (by kernel_rfl) (by kernel_rfl) (fun _ _ _ h => h) (Or.inl ⟨by kernel_rfl, ?hy48t⟩) (by assumption) ?r48t
          case hy48t => (intro w hSw; (try dsimp only at hSw); go_simp; with_reducible rfl)
          try simp only [Act.put]
          refine' wpAnyH_take (i := 49) (v := _) rfl (by kernel_rfl) (by kernel_rfl) (by kernel_rfl) (fun _ _ _ h => h) (Or.inl ⟨by kernel_rfl, ?hy49t⟩) (by assumption) ?r49t
          case hy49t => (intro w hSw; (try dsimp only at hSw); go_simp; with_reducible rfl)
          try simp only [Act.put]
          refine' wpAnyH_take (i := 50) (v := _) rfl (by kernel_rfl) (by kernel_rfl) (by kernel_rfl) (fun _ _ _ h => h) (Or.inl ⟨by kernel_rfl, ?hy50t⟩) (by assumption) ?r50t
          case hy50t => (intro w hSw; (try dsimp only at hSw); go_simp; with_reducible rfl)
          try simp only [Act.put]
          refine' wpAnyH_take (i := 51) (v := _) rfl (by kernel_rfl) (by kernel_rfl) (by kernel_rfl) (fun _ _ _ h => h) (Or.inl ⟨by kernel_rfl, ?hy51t⟩) (by assumption) ?r51t
          case hy51t => (intro w hSw; (try dsimp only at hSw); go_simp; with_reducible rfl)
          try simp only [Act.put]
          refine' wpAnyH_take (i := 52) (v := _) rfl (by kernel_rfl) (by kernel_rfl) (by kernel_rfl) (fun _ _ _ h => h) (Or.inl ⟨by kernel_rfl, ?hy52t⟩) (by assumption) ?r52t
          case hy52t => (intro w hSw; (try dsimp only at hSw); go_simp; with_reducible rfl)
          try simp only [Act.put]
          refine' wpAnyH_take (i := 54) (v := _) rfl (by kernel_rfl) (by kernel_rfl) (by kernel_rfl) (fun _ _ _ h => h) (Or.inl ⟨by kernel_rfl, ?hy54t⟩) (by assumption) ?r54t
          case hy54t => (intro w hSw; (try dsimp only at hSw); go_simp; with_reducible rfl)
          try simp only [Act.put]
          refine' wpAnyH_take (i := 55) (v := _) rfl (by kernel_rfl) (by kernel_rfl) (by kernel_rfl) (fun _ _ _ h => h) (Or.inl ⟨by kernel_rfl, ?hy55t⟩) (by assumption) ?r55t
          case hy55t => (intro w hSw; (try dsimp only at hSw); go_simp; with_reducible rfl)
          try simp only [Act.put]
          refine wpAnyH_ready (rs := [53]) (by kernel_rfl) (by simp) (AllReadyH.cons rfl (fun K' hK => ?_) AllReadyH.nil)
          go_simp
          refine (base_c _ _ XW.out _ _ _ _ _ T9.out.a.ar).mono ?_
          rintro e x10 ⟨rfl, hB⟩
          have T10 := Lib.hid (T9.out.below hB)
          have B10 := Lib.hid (B9.out.below hB)
          clear hB T9 B9
          refine hK.out _ _ B10.out (fun hHeld => ?_)
          clear hK K'
          refine wpAnyH_ready (rs := [56]) (by kernel_rfl) (by simp) (AllReadyH.cons rfl (fun K' hK => ?_) AllReadyH.nil)
          go_simp
          refine (base_c _ _ XW.out _ _ _ _ _ T10.out.b.ar).mono ?_
          rintro e x11 ⟨rfl, hB⟩
          have T11 := Lib.hid (T10.out.below hB)
          have B11 := Lib.hid (B10.out.below hB)
          clear hB T10 B10
          refine hK.out _ _ B11.out (fun hHeld => ?_)
          clear hK K'
          refine' wpAnyH_take (i := 57) (v := _) rfl (by kernel_rfl) (by kernel_rfl) (by kernel_rfl) (fun _ _ _ h => h) (Or.inl ⟨by kernel_rfl, ?hy57t⟩) (by assumption) ?r57t
          case hy57t => (intro w hSw; (try dsimp only at hSw); go_simp; with_reducible rfl)
          try simp only [Act.put]
          refine' wpAnyH_take (i := 58) (v := _) rfl (by kernel_rfl) (by kernel_rfl) (by kernel_rfl) (fun _ _ _ h => h) (Or.inl ⟨by kernel_rfl, ?hy58t⟩) (by assumption) ?r58t
          case hy58t => (intro w hSw; (try dsimp only at hSw); go_simp; with_reducible rfl)
          try simp only [Act.put]
          clear hHeld
          refine wpAnyH_done (by kernel_rfl) ?_ _
          go_wp2_with fail
          go_roundw
          case rel => exact ⟨k + 1, _, _, by omega, by go_num, T11.out, (by first | (rw [freeF_last, setF_last]; exact LA.out) | (rw [setF_last]; exact LA.out)), LC.out, Nat.le_trans h4 (Nat.le_of_lt B11.out.lt)⟩
          case measure => simp [intOf]; omega
        · have t5 : (X1 k 0 == 2) = false := by simpa using htwo
          refine wp_region_held_drew (S := fun w' => Blk w' bx 28 #[.int .i64 (X1 k 0), .int .i64 (X1 k 1), .int .i64 (X1 k 2), .int .i64 (X1 k 3)]) (by kernel_rfl) B5.out (fun hHeld => ?_)
          generalize x5.drew = x5 at *
          refine' wpAnyH_take (i := 0) (v := _) rfl (by kernel_rfl) (by kernel_rfl) (by kernel_rfl) (fun _ _ _ h => h) (Or.inl ⟨by kernel_rfl, ?hy0f⟩) (by assumption) ?r0f
          case hy0f => (intro w hSw; (try dsimp only at hSw); go_simp; with_reducible rfl)
          try simp only [Act.put]
          refine' wpAnyH_take (i := 1) (v := _) rfl (by kernel_rfl) (by kernel_rfl) (by kernel_rfl) (fun _ _ _ h => h) (Or.inl ⟨by kernel_rfl, ?hy1f⟩) (by assumption) ?r1f
          case hy1f => (intro w hSw; (try dsimp only at hSw); go_simp; with_reducible rfl)
          try simp only [Act.put]
          refine' wpAnyH_take (i := 2) (v := _) rfl (by kernel_rfl) (by kernel_rfl) (by kernel_rfl) (fun _ _ _ h => h) (Or.inl ⟨by kernel_rfl, ?hy2f⟩) (by assumption) ?r2f
          case hy2f => (intro w hSw; (try dsimp only at hSw); go_simp; with_reducible rfl)
          try simp only [Act.put]
          refine' wpAnyH_take (i := 3) (v := _) rfl (by kernel_rfl) (by kernel_rfl) (by kernel_rfl) (fun _ _ _ h => h) (Or.inl ⟨by kernel_rfl, ?hy3f⟩) (by assumption) ?r3f
          case hy3f => (intro w hSw; (try dsimp only at hSw); go_simp; with_reducible rfl)
          try simp only [Act.put]
          refine' wpAnyH_take (i := 4) (v := _) rfl (by kernel_rfl) (by kernel_rfl) (by kernel_rfl) (fun _ _ _ h => h) (Or.inl ⟨by kernel_rfl, ?hy4f⟩) (by assumption) ?r4f
          case hy4f => (intro w hSw; (try dsimp only at hSw); go_simp; with_reducible rfl)
          try simp only [Act.put]
          refine' wpAnyH_take (i := 5) (v := _) rfl (by kernel_rfl) (by kernel_rfl) (by kernel_rfl) (fun _ _ _ h => h) (Or.inl ⟨by kernel_rfl, ?hy5f⟩) (by assumption) ?r5f
          case hy5f => (intro w hSw; (try dsimp only at hSw); go_simp; with_reducible rfl)
          try simp only [Act.put]
          refine' wpAnyH_take (i := 6) (v := _) rfl (by kernel_rfl) (by kernel_rfl) (by kernel_rfl) (fun _ _ _ h => h) (Or.inl ⟨by kernel_rfl, ?hy6f⟩) (by assumption) ?r6f
          case hy6f => (intro w hSw; (try dsimp only at hSw); go_simp; with_reducible rfl)
          try simp only [Act.put]
          refine' wpAnyH_take (i := 7) (v := _) rfl (by kernel_rfl) (by kernel_rfl) (by kernel_rfl) (fun _ _ _ h => h) (Or.inl ⟨by kernel_rfl, ?hy7f⟩) (by assumption) ?r7f
          case hy7f => (intro w hSw; (try dsimp only at hSw); go_simp; with_reducible rfl)
          try simp only [Act.put]
          refine' wpAnyH_take (i := 8) (v := _) rfl (by kernel_rfl) (by kernel_rfl) (by kernel_rfl) (fun _ _ _ h => h) (Or.inl ⟨by kernel_rfl, ?hy8f⟩) (by assumption) ?r8f
          case hy8f => (intro w hSw; (try dsimp only at hSw); go_simp; with_reducible rfl)
          try simp only [Act.put]
          refine' wpAnyH_take (i := 9) (v := _) rfl (by kernel_rfl) (by kernel_rfl) (by kernel_rfl) (fun _ _ _ h => h) (Or.inl ⟨by kernel_rfl, ?hy9f⟩) (by assumption) ?r9f
          case hy9f => (intro w hSw; (try dsimp only at hSw); go_simp; with_reducible rfl)
          try simp only [Act.put]
          refine' wpAnyH_take (i := 10) (v := _) rfl (by kernel_rfl) (by kernel_rfl) (by kernel_rfl) (fun _ _ _ h => h) (Or.inl ⟨by kernel_rfl, ?hy10f⟩) (by assumption) ?r10f
          case hy10f => (intro w hSw; (try dsimp only at hSw); go_simp; with_reducible rfl)
          try simp only [Act.put]
          refine' wpAnyH_take (i := 11) (v := _) rfl (by kernel_rfl) (by kernel_rfl) (by kernel_rfl) (fun _ _ _ h => h) (Or.inl ⟨by kernel_rfl, ?hy11f⟩) (by assumption) ?r11f
          case hy11f => (intro w hSw; have q0 := Blk.cell hSw 0; have q1 := Blk.cell hSw 1; have q2 := Blk.cell hSw 2; have q3 := Blk.cell hSw 3; simp at q0 q1 q2 q3; go_simp; with_reducible rfl)
          try simp only [Act.put]
          refine' wpAnyH_take (i := 12) (v := _) rfl (by kernel_rfl) (by kernel_rfl) (by kernel_rfl) (fun _ _ _ h => h) (Or.inl ⟨by kernel_rfl, ?hy12f⟩) (by assumption) ?r12f
          case hy12f => (intro w hSw; (try dsimp only at hSw); go_simp; with_reducible rfl)
          try simp only [Act.put]
          refine' wpAnyH_take (i := 13) (v := _) rfl (by kernel_rfl) (by kernel_rfl) (by kernel_rfl) (fun _ _ _ h => h) (Or.inl ⟨by kernel_rfl, ?hy13f⟩) (by assumption) ?r13f
          case hy13f => (intro w hSw; have q0 := Blk.cell hSw 0; have q1 := Blk.cell hSw 1; have q2 := Blk.cell hSw 2; have q3 := Blk.cell hSw 3; simp at q0 q1 q2 q3; go_simp; with_reducible rfl)
          try simp only [Act.put]
          refine' wpAnyH_take (i := 14) (v := _) rfl (by kernel_rfl) (by kernel_rfl) (by kernel_rfl) (fun _ _ _ h => h) (Or.inl ⟨by kernel_rfl, ?hy14f⟩) (by assumption) ?r14f
          case hy14f => (intro w hSw; (try dsimp only at hSw); go_simp; with_reducible rfl)
          try simp only [Act.put]
          refine' wpAnyH_take (i := 15) (v := _) rfl (by kernel_rfl) (by kernel_rfl) (by kernel_rfl) (fun _ _ _ h => h) (Or.inl ⟨by kernel_rfl, ?hy15f⟩) (by assumption) ?r15f
          case hy15f => (intro w hSw; have q0 := Blk.cell hSw 0; have q1 := Blk.cell hSw 1; have q2 := Blk.cell hSw 2; have q3 := Blk.cell hSw 3; simp at q0 q1 q2 q3; go_simp; with_reducible rfl)
          try simp only [Act.put]
          refine' wpAnyH_take (i := 17) (v := _) rfl (by kernel_rfl) (by kernel_rfl) (by kernel_rfl) (fun _ _ _ h => h) (Or.inl ⟨by kernel_rfl, ?hy17f⟩) (by assumption) ?r17f
          case hy17f => (intro w hSw; (try dsimp only at hSw); go_simp; with_reducible rfl)
          try simp only [Act.put]
          refine' wpAnyH_take (i := 18) (v := _) rfl (by kernel_rfl) (by kernel_rfl) (by kernel_rfl) (fun _ _ _ h => h) (Or.inl ⟨by kernel_rfl, ?hy18f⟩) (by assumption) ?r18f
          case hy18f => (intro w hSw; (try dsimp only at hSw); go_simp; with_reducible rfl)
          try simp only [Act.put]
          refine' wpAnyH_take (i := 19) (v := _) rfl (by kernel_rfl) (by kernel_rfl) (by kernel_rfl) (fun _ _ _ h => h) (Or.inl ⟨by kernel_rfl, ?hy19f⟩) (by assumption) ?r19f
          case hy19f => (intro w hSw; have q0 := Blk.cell hSw 0; have q1 := Blk.cell hSw 1; have q2 := Blk.cell hSw 2; have q3 := Blk.cell hSw 3; simp at q0 q1 q2 q3; go_simp; with_reducible rfl)
          try simp only [Act.put]
          refine' wpAnyH_take (i := 20) (v := _) rfl (by kernel_rfl) (by kernel_rfl) (by kernel_rfl) (fun _ _ _ h => h) (Or.inl ⟨by kernel_rfl, ?hy20f⟩) (by assumption) ?r20f
          case hy20f => (intro w hSw; (try dsimp only at hSw); go_simp; with_reducible rfl)
          try simp only [Act.put]
          refine' wpAnyH_take (i := 21) (v := _) rfl (by kernel_rfl) (by kernel_rfl) (by kernel_rfl) (fun _ _ _ h => h) (Or.inl ⟨by kernel_rfl, ?hy21f⟩) (by assumption) ?r21f
          case hy21f => (intro w hSw; have q0 := Blk.cell hSw 0; have q1 := Blk.cell hSw 1; have q2 := Blk.cell hSw 2; have q3 := Blk.cell hSw 3; simp at q0 q1 q2 q3; go_simp; with_reducible rfl)
          try simp only [Act.put]
          refine' wpAnyH_take (i := 22) (v := _) rfl (by kernel_rfl) (by kernel_rfl) (by kernel_rfl) (fun _ _ _ h => h) (Or.inl ⟨by kernel_rfl, ?hy22f⟩) (by assumption) ?r22f
          case hy22f => (intro w hSw; (try dsimp only at hSw); go_simp; with_reducible rfl)
          try simp only [Act.put]
          refine' wpAnyH_take (i := 23) (v := _) rfl (by kernel_rfl) (by kernel_rfl) (by kernel_rfl) (fun _ _ _ h => h) (Or.inl ⟨by kernel_rfl, ?hy23f⟩) (by assumption) ?r23f
          case hy23f => (intro w hSw; have q0 := Blk.cell hSw 0; have q1 := Blk.cell hSw 1; have q2 := Blk.cell hSw 2; have q3 := Blk.cell hSw 3; simp at q0 q1 q2 q3; go_simp; with_reducible rfl)
          try simp only [Act.put]
          refine wpAnyH_ready (rs := [16]) (by kernel_rfl) (by simp) (AllReadyH.cons rfl (fun K' hK => ?_) AllReadyH.nil)
          go_simp
          refine (T5.out.set1 (X1 k 1) (X1 k 3) (X1 k 2) W1.out).mono ?_
          rintro e x6 ⟨rfl, hT, hO⟩
          have T6 := Lib.hid hT
          have B6 := Lib.hid (B5.out.only hO (by simp; omega))
          clear hT hO T5 B5
          refine hK.out _ _ B6.out (fun hHeld => ?_)
          clear hK K'
          refine wpAnyH_ready (rs := [24]) (by kernel_rfl) (by simp) (AllReadyH.cons rfl (fun K' hK => ?_) AllReadyH.nil)
          go_simp
          refine (T6.out.set2 (X1 k 1) (X1 k 3) (X1 k 2) W1.out).mono ?_
          rintro e x7 ⟨rfl, hT, hO⟩
          have T7 := Lib.hid hT
          have B7 := Lib.hid (B6.out.only hO (by simp; omega))
          clear hT hO T6 B6
          refine hK.out _ _ B7.out (fun hHeld => ?_)
          clear hK K'
          refine' wpAnyH_take (i := 25) (v := _) rfl (by kernel_rfl) (by kernel_rfl) (by kernel_rfl) (fun _ _ _ h => h) (Or.inl ⟨by kernel_rfl, ?hy25f⟩) (by assumption) ?r25f
          case hy25f => (intro w hSw; (try dsimp only at hSw); go_simp; with_reducible rfl)
          try simp only [Act.put]
          refine' wpAnyH_take (i := 26) (v := _) rfl (by kernel_rfl) (by kernel_rfl) (by kernel_rfl) (fun _ _ _ h => h) (Or.inl ⟨by kernel_rfl, ?hy26f⟩) (by assumption) ?r26f
          case hy26f => (intro w hSw; (try dsimp only at hSw); go_simp; with_reducible rfl)
          try simp only [Act.put]
          refine' wpAnyH_take (i := 27) (v := _) rfl (by kernel_rfl) (by kernel_rfl) (by kernel_rfl) (fun _ _ _ h => h) (Or.inl ⟨by kernel_rfl, ?hy27f⟩) (by assumption) ?r27f
          case hy27f => (intro w hSw; (try dsimp only at hSw); go_simp; with_reducible rfl)
          try simp only [Act.put]
          refine' wpAnyH_take (i := 28) (v := _) rfl (by kernel_rfl) (by kernel_rfl) (by kernel_rfl) (fun _ _ _ h => h) (Or.inl ⟨by kernel_rfl, ?hy28f⟩) (by assumption) ?r28f
          case hy28f => (intro w hSw; (try dsimp only at hSw); go_simp; with_reducible rfl)
          try simp only [Act.put]
          refine' wpAnyH_take (i := 29) (v := _) rfl (by kernel_rfl) (by kernel_rfl) (by kernel_rfl) (fun _ _ _ h => h) (Or.inl ⟨by kernel_rfl, ?hy29f⟩) (by assumption) ?r29f
          case hy29f => (intro w hSw; have q0 := Blk.cell hSw 0; have q1 := Blk.cell hSw 1; have q2 := Blk.cell hSw 2; have q3 := Blk.cell hSw 3; simp at q0 q1 q2 q3; go_simp; with_reducible rfl)
          try simp only [Act.put]
          refine' wpAnyH_take (i := 30) (v := _) rfl (by kernel_rfl) (by kernel_rfl) (by kernel_rfl) (fun _ _ _ h => h) (Or.inl ⟨by kernel_rfl, ?hy30f⟩) (by assumption) ?r30f
          case hy30f => (intro w hSw; (try dsimp only at hSw); go_simp; with_reducible rfl)
          try simp only [Act.put]
          refine' wpAnyH_take (i := 31) (v := _) rfl (by kernel_rfl) (by kernel_rfl) (by kernel_rfl) (fun _ _ _ h => h) (Or.inl ⟨by kernel_rfl, ?hy31f⟩) (by assumption) ?r31f
          case hy31f => (intro w hSw; (try dsimp only at hSw); go_simp; with_reducible rfl)
          try simp only [Act.put]
          refine' wpAnyH_take (i := 32) (v := _) rfl (by kernel_rfl) (by kernel_rfl) (by kernel_rfl) (fun _ _ _ h => h) (Or.inr ⟨by kernel_rfl, rfl⟩) (by assumption) ?r32f
          try simp only [Act.put]
          refine' wpAnyH_take (i := 33) (v := _) rfl (by kernel_rfl) (by kernel_rfl) (by kernel_rfl) (fun _ _ _ h => h) (Or.inr ⟨by kernel_rfl, rfl⟩) (by assumption) ?r33f
          try simp only [Act.put]
          refine' wpAnyH_take (i := 34) (v := _) rfl (by kernel_rfl) (by kernel_rfl) (by kernel_rfl) (fun _ _ _ h => h) (Or.inr ⟨by kernel_rfl, rfl⟩) (by assumption) ?r34f
          try simp only [Act.put]
          refine' wpAnyH_take (i := 35) (v := _) rfl (by kernel_rfl) (by kernel_rfl) (by kernel_rfl) (fun _ _ _ h => h) (Or.inr ⟨by kernel_rfl, rfl⟩) (by assumption) ?r35f
          try simp only [Act.put]
          refine' wpAnyH_take (i := 36) (v := _) rfl (by kernel_rfl) (by kernel_rfl) (by kernel_rfl) (fun _ _ _ h => h) (Or.inr ⟨by kernel_rfl, rfl⟩) (by assumption) ?r36f
          try simp only [Act.put]
          refine' wpAnyH_take (i := 37) (v := _) rfl (by kernel_rfl) (by kernel_rfl) (by kernel_rfl) (fun _ _ _ h => h) (Or.inr ⟨by kernel_rfl, rfl⟩) (by assumption) ?r37f
          try simp only [Act.put]
          refine' wpAnyH_take (i := 38) (v := _) rfl (by kernel_rfl) (by kernel_rfl) (by kernel_rfl) (fun _ _ _ h => h) (Or.inr ⟨by kernel_rfl, rfl⟩) (by assumption) ?r38f
          try simp only [Act.put]
          refine' wpAnyH_take (i := 39) (v := _) rfl (by kernel_rfl) (by kernel_rfl) (by kernel_rfl) (fun _ _ _ h => h) (Or.inr ⟨by kernel_rfl, rfl⟩) (by assumption) ?r39f
          try simp only [Act.put]
          refine' wpAnyH_take (i := 40) (v := _) rfl (by kernel_rfl) (by kernel_rfl) (by kernel_rfl) (fun _ _ _ h => h) (Or.inr ⟨by kernel_rfl, rfl⟩) (by assumption) ?r40f
          try simp only [Act.put]
          refine' wpAnyH_take (i := 41) (v := _) rfl (by kernel_rfl) (by kernel_rfl) (by kernel_rfl) (fun _ _ _ h => h) (Or.inl ⟨by kernel_rfl, ?hy41f⟩) (by assumption) ?r41f
          case hy41f => (intro w hSw; (try dsimp only at hSw); go_simp; with_reducible rfl)
          try simp only [Act.put]
          refine' wpAnyH_take (i := 42) (v := _) rfl (by kernel_rfl) (by kernel_rfl) (by kernel_rfl) (fun _ _ _ h => h) (Or.inl ⟨by kernel_rfl, ?hy42f⟩) (by assumption) ?r42f
          case hy42f => (intro w hSw; (try dsimp only at hSw); go_simp; with_reducible rfl)
          try simp only [Act.put]
          refine' wpAnyH_take (i := 43) (v := _) rfl (by kernel_rfl) (by kernel_rfl) (by kernel_rfl) (fun _ _ _ h => h) (Or.inl ⟨by kernel_rfl, ?hy43f⟩) (by assumption) ?r43f
          case hy43f => (intro w hSw; (try dsimp only at hSw); go_simp; with_reducible rfl)
          try simp only [Act.put]
          refine' wpAnyH_take (i := 44) (v := _) rfl (by kernel_rfl) (by kernel_rfl) (by kernel_rfl) (fun _ _ _ h => h) (Or.inl ⟨by kernel_rfl, ?hy44f⟩) (by assumption) ?r44f
          case hy44f => (intro w hSw; (try dsimp only at hSw); go_simp; with_reducible rfl)
          try simp only [Act.put]
          refine' wpAnyH_take (i := 46) (v := _) rfl (by kernel_rfl) (by kernel_rfl) (by kernel_rfl) (fun _ _ _ h => h) (Or.inl ⟨by kernel_rfl, ?hy46f⟩) (by assumption) ?r46f
          case hy46f => (intro w hSw; (try dsimp only at hSw); go_simp; with_reducible rfl)
          try simp only [Act.put]
          refine wpAnyH_ready (rs := [45]) (by kernel_rfl) (by simp) (AllReadyH.cons rfl (fun K' hK => ?_) AllReadyH.nil)
          go_simp
          refine (left_c _ _ _ _ _ _ T7.out.a.ar).mono ?_
          rintro e xx ⟨rfl, rfl⟩
          refine hK.out _ _ B7.out (fun hHeld => ?_)
          clear hK K'
          refine wpAnyH_ready (rs := [47]) (by kernel_rfl) (by simp) (AllReadyH.cons rfl (fun K' hK => ?_) AllReadyH.nil)
          go_simp
          refine (left_c _ _ _ _ _ _ T7.out.b.ar).mono ?_
          rintro e xx ⟨rfl, rfl⟩
          refine hK.out _ _ B7.out (fun hHeld => ?_)
          clear hK K'
          refine' wpAnyH_take (i := 48) (v := _) rfl (by kernel_rfl) (by kernel_rfl) (by kernel_rfl) (fun _ _ _ h => h) (Or.inl ⟨by kernel_rfl, ?hy48f⟩) (by assumption) ?r48f
          case hy48f => (intro w hSw; (try dsimp only at hSw); go_simp; with_reducible rfl)
          try simp only [Act.put]
          refine' wpAnyH_take (i := 49) (v := _) rfl (by kernel_rfl) (by kernel_rfl) (by kernel_rfl) (fun _ _ _ h => h) (Or.inl ⟨by kernel_rfl, ?hy49f⟩) (by assumption) ?r49f
          case hy49f => (intro w hSw; (try dsimp only at hSw); go_simp; with_reducible rfl)
          try simp only [Act.put]
          refine' wpAnyH_take (i := 50) (v := _) rfl (by kernel_rfl) (by kernel_rfl) (by kernel_rfl) (fun _ _ _ h => h) (Or.inl ⟨by kernel_rfl, ?hy50f⟩) (by assumption) ?r50f
          case hy50f => (intro w hSw; (try dsimp only at hSw); go_simp; with_reducible rfl)
          try simp only [Act.put]
          refine' wpAnyH_take (i := 51) (v := _) rfl (by kernel_rfl) (by kernel_rfl) (by kernel_rfl) (fun _ _ _ h => h) (Or.inl ⟨by kernel_rfl, ?hy51f⟩) (by assumption) ?r51f
          case hy51f => (intro w hSw; (try dsimp only at hSw); go_simp; with_reducible rfl)
          try simp only [Act.put]
          refine' wpAnyH_take (i := 52) (v := _) rfl (by kernel_rfl) (by kernel_rfl) (by kernel_rfl) (fun _ _ _ h => h) (Or.inl ⟨by kernel_rfl, ?hy52f⟩) (by assumption) ?r52f
          case hy52f => (intro w hSw; (try dsimp only at hSw); go_simp; with_reducible rfl)
          try simp only [Act.put]
          refine' wpAnyH_take (i := 54) (v := _) rfl (by kernel_rfl) (by kernel_rfl) (by kernel_rfl) (fun _ _ _ h => h) (Or.inl ⟨by kernel_rfl, ?hy54f⟩) (by assumption) ?r54f
          case hy54f => (intro w hSw; (try dsimp only at hSw); go_simp; with_reducible rfl)
          try simp only [Act.put]
          refine' wpAnyH_take (i := 55) (v := _) rfl (by kernel_rfl) (by kernel_rfl) (by kernel_rfl) (fun _ _ _ h => h) (Or.inl ⟨by kernel_rfl, ?hy55f⟩) (by assumption) ?r55f
          case hy55f => (intro w hSw; (try dsimp only at hSw); go_simp; with_reducible rfl)
          try simp only [Act.put]
          refine wpAnyH_ready (rs := [53]) (by kernel_rfl) (by simp) (AllReadyH.cons rfl (fun K' hK => ?_) AllReadyH.nil)
          go_simp
          refine (base_c _ _ XW.out _ _ _ _ _ T7.out.a.ar).mono ?_
          rintro e x8 ⟨rfl, hB⟩
          have T8 := Lib.hid (T7.out.below hB)
          have B8 := Lib.hid (B7.out.below hB)
          clear hB T7 B7
          refine hK.out _ _ B8.out (fun hHeld => ?_)
          clear hK K'
          refine wpAnyH_ready (rs := [56]) (by kernel_rfl) (by simp) (AllReadyH.cons rfl (fun K' hK => ?_) AllReadyH.nil)
          go_simp
          refine (base_c _ _ XW.out _ _ _ _ _ T8.out.b.ar).mono ?_
          rintro e x9 ⟨rfl, hB⟩
          have T9 := Lib.hid (T8.out.below hB)
          have B9 := Lib.hid (B8.out.below hB)
          clear hB T8 B8
          refine hK.out _ _ B9.out (fun hHeld => ?_)
          clear hK K'
          refine' wpAnyH_take (i := 57) (v := _) rfl (by kernel_rfl) (by kernel_rfl) (by kernel_rfl) (fun _ _ _ h => h) (Or.inl ⟨by kernel_rfl, ?hy57f⟩) (by assumption) ?r57f
          case hy57f => (intro w hSw; (try dsimp only at hSw); go_simp; with_reducible rfl)
          try simp only [Act.put]
          refine' wpAnyH_take (i := 58) (v := _) rfl (by kernel_rfl) (by kernel_rfl) (by kernel_rfl) (fun _ _ _ h => h) (Or.inl ⟨by kernel_rfl, ?hy58f⟩) (by assumption) ?r58f
          case hy58f => (intro w hSw; (try dsimp only at hSw); go_simp; with_reducible rfl)
          try simp only [Act.put]
          clear hHeld
          refine wpAnyH_done (by kernel_rfl) ?_ _
          go_wp2_with fail
          go_roundw
          case rel => exact ⟨k + 1, _, _, by omega, by go_num, T9.out, (by first | (rw [freeF_last, setF_last]; exact LA.out) | (rw [setF_last]; exact LA.out)), LC.out, Nat.le_trans h4 (Nat.le_of_lt B9.out.lt)⟩
          case measure => simp [intOf]; omega
    · have e : k = len1 := by omega
      subst e
      have t0 : ¬ k < k := by omega
      go_wp2_with fail
      go_ret
      exact ⟨rfl, T1.out.a.below⟩
theorem arenaTwice_c (n : Int) (A1 : Option Addr) (len1 cap1 : Nat) (X1 : Nat → Nat → Int) (A2 : Option Addr) (len2 cap2 : Nat) (X2 : Nat → Nat → Int) (w : World)
    (hS1 : 0 < len1 → ∃ b o, A1 = some ⟨b, o, none⟩ ∧ b < w.heap.size ∧ ∀ i, i < len1 → ∀ j, j < 4 → w.cell? ⟨b, o + (i * 4 + j), none⟩ = some (.int .i64 (X1 i j)))
    (hS2 : 0 < len2 → ∃ b o, A2 = some ⟨b, o, none⟩ ∧ b < w.heap.size ∧ ∀ i, i < len2 → ∀ j, j < 4 → w.cell? ⟨b, o + (i * 4 + j), none⟩ = some (.int .i64 (X2 i j)))
    (hX1 : ∀ i, i < len1 → ∀ j, j < 4 → (Lit.int .i64 (X1 i j)).wf = true) (hX2 : ∀ i, i < len2 → ∀ j, j < 4 → (Lit.int .i64 (X2 i j)).wf = true) :
    Calls Try.prog 3 #[.int .i64 n, .slice A1 len1 cap1, .slice A2 len2 cap2] w fun e w' => e = .returned (.bool true) ∧ Below w.heap.size w w' := by
  cases h1 : longB n len1 with
  | true => exact twice_big n A1 len1 cap1 A2 len2 cap2 (.inl h1) w
  | false =>
    cases h2 : longB n len2 with
    | true => exact twice_big n A1 len1 cap1 A2 len2 cap2 (.inr h2) w
    | false => exact twice_main n A1 len1 cap1 X1 A2 len2 cap2 X2 w h1 h2 hS1 hS2 hX1 hX2
end Go.Proofs.Ytgckncggcdmaaaa
