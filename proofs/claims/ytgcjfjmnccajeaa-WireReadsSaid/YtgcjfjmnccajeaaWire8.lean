/- The wire's response reader: a token. -/
import Derived.Test.YtgcjfjmnccajeaaWire7
namespace Go.Proofs.Ytgcjfjmnccajeaa
open Go.RowKit
theorem rdP_lt (limit : Nat) : ∀ (f i acc : Nat) (rest : List UInt8) (bad : Bool), acc < 2 ^ (7 * i) → (rdP limit f i acc rest bad).1 < 2 ^ (7 * (i + f))
  | 0, i, _, _, _, h => Nat.pow_pos (by decide)
  | f + 1, i, acc, rest, bad, h => by
    have e : 2 ^ (7 * (i + 1)) = 128 * 2 ^ (7 * i) := by rw [Nat.mul_add, Nat.pow_add, Nat.mul_comm]
    have hc := Nat.mul_le_mul_right (2 ^ (7 * i)) (show (oneB rest bad).1 % 128 ≤ 127 by omega)
    have hx : acc + (oneB rest bad).1 % 128 * 2 ^ (7 * i) < 2 ^ (7 * (i + 1)) := by omega
    unfold rdP
    by_cases h1 : (oneB rest bad).1 < 128
    · rw [if_pos h1]
      exact Nat.lt_of_lt_of_le hx (Nat.pow_le_pow_right (by decide) (by omega))
    · rw [if_neg h1]
      have := rdP_lt limit f (i + 1) _ (oneB rest bad).2.1 (oneB rest bad).2.2 hx
      rwa [show i + 1 + f = i + (f + 1) from by omega] at this
theorem rd_lt (limit : Nat) (rest : List UInt8) (bad : Bool) : (rdP limit 7 0 0 rest bad).1 < 562949953421312 := rdP_lt limit 7 0 0 rest bad (by decide)
/-- A token, the rest, whether it is bad. -/
def tokP (rest : List UInt8) (bad : Bool) : (Int × Int × Int) × List UInt8 × Bool :=
  (fun a : Nat × List UInt8 × Bool => (fun b : Nat × List UInt8 × Bool => (fun c : Nat × List UInt8 × Bool =>
    ((((a.1 : Int), (b.1 : Int), (b.1 : Int) + c.1)), c.2.1, c.2.2 || decide (most < b.1 + c.1))) (rdP most 7 0 0 b.2.1 b.2.2)) (rdP most 7 0 0 a.2.1 a.2.2)) (rdP 255 7 0 0 rest bad)
theorem tokP_eq (rest : List UInt8) (bad : Bool) (a b c : Nat) (r1 r2 r3 : List UInt8) (b1 b2 b3 : Bool) (h1 : rdP 255 7 0 0 rest bad = (a, r1, b1)) (h2 : rdP most 7 0 0 r1 b1 = (b, r2, b2)) (h3 : rdP most 7 0 0 r2 b2 = (c, r3, b3)) :
    tokP rest bad = (((a : Int), (b : Int), (b : Int) + c), r3, b3 || decide (most < b + c)) := by
  unfold tokP; simp only [h1, h2, h3]
theorem num255 (b : Nat) (t : TypeId) (tl : List Value) (rest : List UInt8) (hl : rest.length ≤ 1000000) (bad : Bool) (w : World) (h : Rd b t tl rest bad w) : Calls Try.prog 33 #[.pointer (some ⟨b, 0, none⟩), .int .i64 255] w fun e w' =>
    e = .returned (.int .i64 (rdP 255 7 0 0 rest bad).1) ∧ Rd b t tl (rdP 255 7 0 0 rest bad).2.1 (rdP 255 7 0 0 rest bad).2.2 w' ∧ Only [b] w w' := num_c 255 b t tl rest hl bad w h
theorem numMost (b : Nat) (t : TypeId) (tl : List Value) (rest : List UInt8) (hl : rest.length ≤ 1000000) (bad : Bool) (w : World) (h : Rd b t tl rest bad w) : Calls Try.prog 33 #[.pointer (some ⟨b, 0, none⟩), .int .i64 1099511627776] w fun e w' =>
    e = .returned (.int .i64 (rdP most 7 0 0 rest bad).1) ∧ Rd b t tl (rdP most 7 0 0 rest bad).2.1 (rdP most 7 0 0 rest bad).2.2 w' ∧ Only [b] w w' := num_c most b t tl rest hl bad w h
def put3 (w : World) (b : Nat) (a0 a1 a2 : Value) : World := ((w.setCell ⟨b, 0, none⟩ a0).setCell ⟨b, 1, none⟩ a1).setCell ⟨b, 2, none⟩ a2
theorem put3_blk {w : World} {b : Nat} {t : TypeId} {c0 c1 c2 : Value} (h : Blk w b t #[c0, c1, c2]) (a0 a1 a2 : Value) : Blk (put3 w b a0 a1 a2) b t #[a0, a1, a2] := by
  have h1 : Blk _ b t #[a0, c1, c2] := (h.set 0 a0).cast (by rfl)
  have h2 : Blk _ b t #[a0, a1, c2] := (h1.set 1 a1).cast (by rfl)
  have h3 : Blk _ b t #[a0, a1, a2] := (h2.set 2 a2).cast (by rfl)
  exact h3
theorem put3_only (w : World) (b : Nat) (a0 a1 a2 : Value) : Only [b] w (put3 w b a0 a1 a2) :=
  (((Only.refl [b] w).set (p := ⟨b, 0, none⟩) (by simp) a0).set (p := ⟨b, 1, none⟩) (by simp) a1).set (p := ⟨b, 2, none⟩) (by simp) a2
/-- What stands behind the first two numbers. -/
def TokAt (b : Nat) (tl : List Value) (r : List UInt8) (bd : Bool) (x y : Int) (w : World) (v : Value) (wx : World) : Prop :=
  ∃ g, v = .pointer (some ⟨g, 0, none⟩) ∧ Blk wx g 78 #[.int .i64 x, .int .i64 y, .int .i64 0] ∧ w.heap.size < g ∧ Rd b 75 tl r bd wx ∧ Blk wx w.heap.size 78 #[.int .i64 0, .int .i64 0, .int .i64 0] ∧ Only [b] w wx
theorem tok_a {b : Nat} {tl : List Value} {r : List UInt8} {bd : Bool} {x y : Int} {w w1 w2 : World} (hb : b < w.heap.size) (h2 : Only [b] (w.alloc (.cells #[.int .i64 0, .int .i64 0, .int .i64 0] 78)).drew w1) (h4 : Only [b] w1 w2) (h3 : Rd b 75 tl r bd w2) :
    TokAt b tl r bd x y w (.pointer (some ⟨w2.heap.size, 0, none⟩)) (w2.alloc (.cells #[.int .i64 x, .int .i64 y, .int .i64 0] 78)) := by
  have s2 := h2.size; have s4 := h4.size
  simp at s2
  exact ⟨_, rfl, Blk.made w2 _ _, by omega, Blk.alloc h3 _, (Blk.only (Blk.only (Blk.drew (Blk.made w _ _)) h2 (by first | (simp; omega) | simp)) h4 (by first | (simp; omega) | simp)).alloc _, ((((Only.refl [b] w).alloc _).drew.trans h2).trans h4).alloc _⟩
theorem tok_b {b : Nat} {tl : List Value} {r : List UInt8} {bd : Bool} {x y : Int} {w w1 w2 : World} (hb : b < w.heap.size) (h2 : Only [b] (w.alloc (.cells #[.int .i64 0, .int .i64 0, .int .i64 0] 78)).drew w1) (h4 : Only [b] (w1.alloc (.cells #[.int .i64 0, .int .i64 0, .int .i64 0] 78)) w2) (h3 : Rd b 75 tl r bd w2) :
    TokAt b tl r bd x y w (.pointer (some ⟨w1.heap.size, 0, none⟩)) (put3 w2 w1.heap.size (.int .i64 x) (.int .i64 y) (.int .i64 0)) := by
  have s2 := h2.size; have s4 := h4.size
  simp at s2 s4
  have k := put3_only w2 w1.heap.size (.int .i64 x) (.int .i64 y) (.int .i64 0)
  exact ⟨_, rfl, put3_blk (Blk.only (Blk.made w1 _ _) h4 (by first | (simp; omega) | simp)) _ _ _, by omega, Blk.only h3 k (by first | (simp; omega) | simp), Blk.only (Blk.only (Blk.alloc (Blk.only (Blk.drew (Blk.made w _ _)) h2 (by first | (simp; omega) | simp)) _) h4 (by first | (simp; omega) | simp)) k (by first | (simp; omega) | simp), ((((Only.refl [b] w).alloc _).drew.trans h2).alloc _).trans h4 |>.step k (by first | (simp; omega) | simp)⟩
theorem tok_c {b : Nat} {tl : List Value} {r : List UInt8} {bd : Bool} {x y : Int} {w w1 w2 : World} (hb : b < w.heap.size) (h2 : Only [b] ((w.alloc (.cells #[.int .i64 0, .int .i64 0, .int .i64 0] 78)).alloc (.cells #[.int .i64 0, .int .i64 0, .int .i64 0] 78)).drew w1) (h4 : Only [b] w1 w2) (h3 : Rd b 75 tl r bd w2) :
    TokAt b tl r bd x y w (.pointer (some ⟨w.heap.size + 1, 0, none⟩)) (put3 w2 (w.heap.size + 1) (.int .i64 x) (.int .i64 y) (.int .i64 0)) := by
  have s2 := h2.size; have s4 := h4.size
  simp at s2 s4
  have k := put3_only w2 (w.heap.size + 1) (.int .i64 x) (.int .i64 y) (.int .i64 0)
  have hm := Blk.made (w.alloc (.cells #[.int .i64 0, .int .i64 0, .int .i64 0] 78)) 78 #[.int .i64 0, .int .i64 0, .int .i64 0]
  rw [World.size_alloc] at hm
  exact ⟨_, rfl, put3_blk (Blk.only (Blk.only (Blk.drew hm) h2 (by first | (simp; omega) | simp)) h4 (by first | (simp; omega) | simp)) _ _ _, by omega, Blk.only h3 k (by first | (simp; omega) | simp), Blk.only (Blk.only (Blk.only (Blk.drew (Blk.alloc (Blk.made w _ _) _)) h2 (by first | (simp; omega) | simp)) h4 (by first | (simp; omega) | simp)) k (by first | (simp; omega) | simp), (((((Only.refl [b] w).alloc _).alloc _).drew.trans h2).trans h4).step k (by first | (simp; omega) | simp)⟩
theorem tok_mid {b : Nat} {w1 w2 : World} (h4 : Only [b] (w1.alloc (.cells #[.int .i64 0, .int .i64 0, .int .i64 0] 78)) w2) (hb : b < w1.heap.size) : Blk w2 w1.heap.size 78 #[.int .i64 0, .int .i64 0, .int .i64 0] := Blk.only (Blk.made w1 78 #[.int .i64 0, .int .i64 0, .int .i64 0]) h4 (by first | (simp; omega) | simp)
theorem tok_first {b : Nat} {w w1 w2 : World} (h2 : Only [b] ((w.alloc (.cells #[.int .i64 0, .int .i64 0, .int .i64 0] 78)).alloc (.cells #[.int .i64 0, .int .i64 0, .int .i64 0] 78)).drew w1) (h4 : Only [b] w1 w2) (hb : b < w.heap.size) : Blk w2 (w.heap.size + 1) 78 #[.int .i64 0, .int .i64 0, .int .i64 0] := by
  have := Blk.made (w.alloc (.cells #[.int .i64 0, .int .i64 0, .int .i64 0] 78)) 78 #[.int .i64 0, .int .i64 0, .int .i64 0]
  rw [World.size_alloc] at this
  exact Blk.only (Blk.only (Blk.drew this) h2 (by first | (simp; omega) | simp)) h4 (by first | (simp; omega) | simp)
set_option maxHeartbeats 4000000 in
set_option maxRecDepth 100000 in
theorem token_c (b : Nat) (tl : List Value) (rest : List UInt8) (hl : rest.length ≤ 1000000) (bad : Bool) (w : World) (h : Rd b 75 tl rest bad w) : Calls Try.prog 34 #[.pointer (some ⟨b, 0, none⟩)] w fun e w' =>
    e = .returned (.agg #[.int .i64 (tokP rest bad).1.1, .int .i64 (tokP rest bad).1.2.1, .int .i64 (tokP rest bad).1.2.2]) ∧ Rd b 75 tl (tokP rest bad).2.1 (tokP rest bad).2.2 w' ∧ Only [b] w w' := by
  have A1 := rd_lt 255 rest bad
  have N1 := Lib.hid (fun w1 h => num255 b 75 tl rest hl bad w1 h)
  have LE1 := rdP_len 255 7 0 0 rest bad
  obtain ⟨⟨na, r1, b1⟩, h1⟩ : ∃ x, rdP 255 7 0 0 rest bad = x := ⟨_, rfl⟩
  rw [h1] at A1 N1 LE1
  simp only at A1 N1 LE1
  have A2 := rd_lt most r1 b1
  have N2 := Lib.hid (fun w1 h => numMost b 75 tl r1 (Nat.le_trans LE1 hl) b1 w1 h)
  have LE2 := rdP_len most 7 0 0 r1 b1
  obtain ⟨⟨nb, r2, b2⟩, h2⟩ : ∃ x, rdP most 7 0 0 r1 b1 = x := ⟨_, rfl⟩
  rw [h2] at A2 N2 LE2
  simp only at A2 N2 LE2
  have A3 := rd_lt most r2 b2
  have N3 := Lib.hid (fun w1 h => numMost b 75 tl r2 (Nat.le_trans LE2 (Nat.le_trans LE1 hl)) b2 w1 h)
  obtain ⟨⟨nc, r3, b3⟩, h3⟩ : ∃ x, rdP most 7 0 0 r2 b2 = x := ⟨_, rfl⟩
  rw [h3] at A3 N3
  simp only at A3 N3
  have TE := Lib.hid (tokP_eq rest bad na nb nc r1 r2 r3 b1 b2 b3 h1 h2 h3)
  have HH := Lib.hid h
  have hb := Blk.lt h
  clear h h1 h2 h3
  have hS : IntKind.i64.wrap ((nb : Int) + nc) = nb + nc := IntWalk.i64_in _ (by omega)
  go_enter Try.func34, Try.ntmps34
  go_upto_region 1 with fail
  go_cut [3] (fun v3 wx => TokAt b tl r2 b2 na nb w v3 wx)
  case first =>
    go_region_with (first | (go_at_call 33; (with_reducible refine (N1.out _ ?_).mono ?_); (first | exact Blk.drew (Blk.alloc HH.out _) | exact Blk.drew (Blk.alloc (Blk.alloc HH.out _) _)); rintro e w1 ⟨rfl, h1, h2⟩; have hb1 := Blk.lt h1) | (go_at_call 33; (with_reducible refine (N2.out _ ?_).mono ?_); (first | exact h1 | exact Blk.alloc h1 _); rintro e w2 ⟨rfl, h3, h4⟩; (first | (have HB := tok_mid h4 hb1; have q0 : w2.cell? ⟨w1.heap.size, 0, none⟩ = some (.int .i64 0) := HB.cell 0; have q1 : w2.cell? ⟨w1.heap.size, 1, none⟩ = some (.int .i64 0) := HB.cell 1; have q2 : w2.cell? ⟨w1.heap.size, 2, none⟩ = some (.int .i64 0) := HB.cell 2; have q3 := HB.free 0; have q4 := HB.free 1; have q5 := HB.free 2) | (have HB := tok_first h2 h4 hb; have q0 : w2.cell? ⟨w.heap.size + 1, 0, none⟩ = some (.int .i64 0) := HB.cell 0; have q1 : w2.cell? ⟨w.heap.size + 1, 1, none⟩ = some (.int .i64 0) := HB.cell 1; have q2 : w2.cell? ⟨w.heap.size + 1, 2, none⟩ = some (.int .i64 0) := HB.cell 2; have q3 := HB.free 0; have q4 := HB.free 1; have q5 := HB.free 2) | skip)))
    all_goals (go_wp2_with fail; go_meet; (first | exact tok_a hb h2 h4 h3 | exact tok_b hb h2 h4 h3 | exact tok_c hb h2 h4 h3))
  case rest =>
    obtain ⟨g, rfl, hg, hgt, hrd, hz, hon⟩ := hcut
    have HG := Lib.hid hg
    have HR := Lib.hid hrd
    have HZ := Lib.hid hz
    have HO := Lib.hid hon
    have q1 : wc.cell? ⟨g, 1, none⟩ = some (.int .i64 nb) := hg.cell 1
    have NC := Lib.hid (N3.out wc.drew (Blk.drew hrd))
    clear hg hrd hz hon
    go_wp2_with fail
    have hgb : g ≠ b := by omega
    have hg2 := Blk.lt HG.out
    go_region_with (go_at_call 33; refine NC.out.mono ?_; rintro e w3 ⟨rfl, h1, h2⟩; have HB := Blk.only (Blk.drew HG.out) h2 (by first | (simp; omega) | simp); have p1 : w3.cell? ⟨g, 1, none⟩ = some (.int .i64 nb) := HB.cell 1; have p2 : w3.cell? ⟨g, 2, none⟩ = some (.int .i64 0) := HB.cell 2; have p3 := HB.free 2; have H1 := Lib.hid h1; have H2 := Lib.hid h2; have HBB := Lib.hid HB; clear h1 h2 HB)
    all_goals
      have X1 := Lib.hid ((Blk.set HBB.out 2 (.int .i64 (nb + nc))).cast (cs' := #[.int .i64 na, .int .i64 nb, .int .i64 (nb + nc)]) rfl)
      have X2 := Lib.hid (show Rd b 75 tl r3 b3 _ from Blk.far H1.out (p := ⟨g, 2, none⟩) (by first | (simp; omega) | simp) (.int .i64 (nb + nc)))
      have X3 := Lib.hid (Blk.far (Blk.only (Blk.drew HZ.out) H2.out (by first | (simp; omega) | simp)) (p := ⟨g, 2, none⟩) (by first | (simp; omega) | simp) (.int .i64 (nb + nc)))
      have X4 := Lib.hid ((HO.out.drew.trans H2.out).set (p := ⟨g, 2, none⟩) (.inr (by first | (simp; omega) | simp)) (.int .i64 (nb + nc)))
      generalize hw4 : w3.setCell ⟨g, 2, none⟩ (.int .i64 (nb + nc)) = w4 at *
      clear hw4 p1 p2 p3 HBB H1 H2
      have y1 := X2.out.cell1
      have y2 := X2.out.free 1
      have g0 : w4.cell? ⟨g, 0, none⟩ = some (.int .i64 na) := X1.out.cell 0
      have g1 : w4.cell? ⟨g, 1, none⟩ = some (.int .i64 nb) := X1.out.cell 1
      have g2 : w4.cell? ⟨g, 2, none⟩ = some (.int .i64 (nb + nc)) := X1.out.cell 2
      have z0 : w4.cell? ⟨w.heap.size, 0, none⟩ = some (.int .i64 0) := X3.out.cell 0
      have z1 : w4.cell? ⟨w.heap.size, 1, none⟩ = some (.int .i64 0) := X3.out.cell 1
      have z2 : w4.cell? ⟨w.heap.size, 2, none⟩ = some (.int .i64 0) := X3.out.cell 2
      have z3 := X3.out.free 0
      have z4 := X3.out.free 1
      have z5 := X3.out.free 2
      have hbw : w.heap.size ≠ b := by omega
      have hgw : w.heap.size ≠ g := by omega
      cases b3 with
      | true =>
        rw [Bool.true_or] at TE
        go_wp2_with fail
        clear z0 z1 z2
        obtain ⟨w5, hw5⟩ : ∃ w5, w5 = put3 (w4.setCell ⟨b, 1, none⟩ (.bool true)) w.heap.size (.int .i64 na) (.int .i64 nb) (.int .i64 (nb + nc)) := ⟨_, rfl⟩
        have Y1 := put3_blk (Blk.far X3.out (p := ⟨b, 1, none⟩) (by first | (simp; omega) | simp) (.bool true)) (.int .i64 na) (.int .i64 nb) (.int .i64 (nb + nc))
        have Y2 := put3_only (w4.setCell ⟨b, 1, none⟩ (.bool true)) w.heap.size (.int .i64 na) (.int .i64 nb) (.int .i64 (nb + nc))
        have Y3 := (X2.out.set1 true).only Y2 (by first | (simp; omega) | simp)
        rw [← hw5] at Y1 Y2 Y3
        have Y4 := (X4.out.set (p := ⟨b, 1, none⟩) (.inl (by simp)) (.bool true)).step Y2 (by simp)
        unfold put3 at hw5
        rw [← hw5]
        have z0 : w5.cell? ⟨w.heap.size, 0, none⟩ = some (.int .i64 na) := Y1.cell 0
        have z1 : w5.cell? ⟨w.heap.size, 1, none⟩ = some (.int .i64 nb) := Y1.cell 1
        have z2 : w5.cell? ⟨w.heap.size, 2, none⟩ = some (.int .i64 (nb + nc)) := Y1.cell 2
        exact bodyPost_ret (v := .agg #[.int .i64 na, .int .i64 nb, .int .i64 (nb + nc)]) (by simp [results, Try.results34, go_sem, z0, z1, z2]) rfl ⟨by rw [TE.out], by rw [TE.out]; exact Y3, Y4⟩
      | false =>
        rw [Bool.false_or] at TE
        by_cases hm : most < nb + nc
        · have t1 : decide ((1099511627776 : Int) < (nb : Int) + nc) = true := by unfold most at hm; simp; omega
          rw [show decide (most < nb + nc) = true from decide_eq_true hm] at TE
          go_wp2_with fail
          clear z0 z1 z2
          obtain ⟨w5, hw5⟩ : ∃ w5, w5 = put3 (w4.setCell ⟨b, 1, none⟩ (.bool true)) w.heap.size (.int .i64 na) (.int .i64 nb) (.int .i64 (nb + nc)) := ⟨_, rfl⟩
          have Y1 := put3_blk (Blk.far X3.out (p := ⟨b, 1, none⟩) (by first | (simp; omega) | simp) (.bool true)) (.int .i64 na) (.int .i64 nb) (.int .i64 (nb + nc))
          have Y2 := put3_only (w4.setCell ⟨b, 1, none⟩ (.bool true)) w.heap.size (.int .i64 na) (.int .i64 nb) (.int .i64 (nb + nc))
          have Y3 := (X2.out.set1 true).only Y2 (by first | (simp; omega) | simp)
          rw [← hw5] at Y1 Y2 Y3
          have Y4 := (X4.out.set (p := ⟨b, 1, none⟩) (.inl (by simp)) (.bool true)).step Y2 (by simp)
          unfold put3 at hw5
          rw [← hw5]
          have z0 : w5.cell? ⟨w.heap.size, 0, none⟩ = some (.int .i64 na) := Y1.cell 0
          have z1 : w5.cell? ⟨w.heap.size, 1, none⟩ = some (.int .i64 nb) := Y1.cell 1
          have z2 : w5.cell? ⟨w.heap.size, 2, none⟩ = some (.int .i64 (nb + nc)) := Y1.cell 2
          exact bodyPost_ret (v := .agg #[.int .i64 na, .int .i64 nb, .int .i64 (nb + nc)]) (by simp [results, Try.results34, go_sem, z0, z1, z2]) rfl ⟨by rw [TE.out], by rw [TE.out]; exact Y3, Y4⟩
        · have t1 : decide ((1099511627776 : Int) < (nb : Int) + nc) = false := by unfold most at hm; simp; omega
          rw [show decide (most < nb + nc) = false from decide_eq_false hm] at TE
          go_wp2_with fail
          clear z0 z1 z2
          obtain ⟨w5, hw5⟩ : ∃ w5, w5 = put3 (w4.setCell ⟨b, 1, none⟩ (.bool false)) w.heap.size (.int .i64 na) (.int .i64 nb) (.int .i64 (nb + nc)) := ⟨_, rfl⟩
          have Y1 := put3_blk (Blk.far X3.out (p := ⟨b, 1, none⟩) (by first | (simp; omega) | simp) (.bool false)) (.int .i64 na) (.int .i64 nb) (.int .i64 (nb + nc))
          have Y2 := put3_only (w4.setCell ⟨b, 1, none⟩ (.bool false)) w.heap.size (.int .i64 na) (.int .i64 nb) (.int .i64 (nb + nc))
          have Y3 := (X2.out.set1 false).only Y2 (by first | (simp; omega) | simp)
          rw [← hw5] at Y1 Y2 Y3
          have Y4 := (X4.out.set (p := ⟨b, 1, none⟩) (.inl (by simp)) (.bool false)).step Y2 (by simp)
          unfold put3 at hw5
          rw [← hw5]
          have z0 : w5.cell? ⟨w.heap.size, 0, none⟩ = some (.int .i64 na) := Y1.cell 0
          have z1 : w5.cell? ⟨w.heap.size, 1, none⟩ = some (.int .i64 nb) := Y1.cell 1
          have z2 : w5.cell? ⟨w.heap.size, 2, none⟩ = some (.int .i64 (nb + nc)) := Y1.cell 2
          exact bodyPost_ret (v := .agg #[.int .i64 na, .int .i64 nb, .int .i64 (nb + nc)]) (by simp [results, Try.results34, go_sem, z0, z1, z2]) rfl ⟨by rw [TE.out], by rw [TE.out]; exact Y3, Y4⟩
end Go.Proofs.Ytgcjfjmnccajeaa
