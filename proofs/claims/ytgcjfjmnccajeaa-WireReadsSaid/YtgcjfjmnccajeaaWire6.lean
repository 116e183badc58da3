/- The wire's request reader. -/
import Derived.Test.YtgcjfjmnccajeaaWire5
import Derived.Deep.RegionHeld3
namespace Go.Proofs.Ytgcjfjmnccajeaa
open Go.RowKit
/-- What read makes of a reader's bytes: kind and tenant, numbers, text, the rest, whether it is bad. -/
def rqP (s : List UInt8) : (Nat × Nat) × (Nat → Int) × List UInt8 × List UInt8 × Bool :=
  if (oneB s false).1 = 1 then (((oneB s false).1, (oneB (oneB s false).2.1 (oneB s false).2.2).1), (quotaF 5 (fun _ => 0) (oneB (oneB s false).2.1 (oneB s false).2.2).2.1 (oneB (oneB s false).2.1 (oneB s false).2.2).2.2).1, [], (quotaF 5 (fun _ => 0) (oneB (oneB s false).2.1 (oneB s false).2.2).2.1 (oneB (oneB s false).2.1 (oneB s false).2.2).2.2).2)
  else if (oneB s false).1 = 2 ∨ (oneB s false).1 = 3 then (((oneB s false).1, (oneB (oneB s false).2.1 (oneB s false).2.2).1), (fun _ => 0), (textP (oneB (oneB s false).2.1 (oneB s false).2.2).2.1 (oneB (oneB s false).2.1 (oneB s false).2.2).2.2).1, (textP (oneB (oneB s false).2.1 (oneB s false).2.2).2.1 (oneB (oneB s false).2.1 (oneB s false).2.2).2.2).2)
  else if (oneB s false).1 = 4 then (((oneB s false).1, (oneB (oneB s false).2.1 (oneB s false).2.2).1), (fun _ => 0), [], (oneB (oneB s false).2.1 (oneB s false).2.2).2)
  else (((oneB s false).1, (oneB (oneB s false).2.1 (oneB s false).2.2).1), (fun _ => 0), [], (oneB (oneB s false).2.1 (oneB s false).2.2).2.1, true)
def RqAt (b : Nat) (X : (Nat × Nat) × (Nat → Int) × List UInt8 × List UInt8 × Bool) (w : World) : Prop := Rd b 55 (rqTl X.1.1 X.1.2 X.2.1 X.2.2.1) X.2.2.2.1 X.2.2.2.2 w
theorem Rd.setK {b : Nat} {kind tenant : Int} {q : Nat → Int} {text rest : List UInt8} {bad : Bool} {w : World} (h : Rd b 55 (rqTl kind tenant q text) rest bad w) (n : Int) : Rd b 55 (rqTl n tenant q text) rest bad (w.setCell ⟨b, 2, none⟩ (.int .i64 n)) := Blk.set h 2 _
theorem Rd.setT {b : Nat} {kind tenant : Int} {q : Nat → Int} {text rest : List UInt8} {bad : Bool} {w : World} (h : Rd b 55 (rqTl kind tenant q text) rest bad w) (n : Int) : Rd b 55 (rqTl kind n q text) rest bad (w.setCell ⟨b, 3, none⟩ (.int .i64 n)) := Blk.set h 3 _
theorem Rd.setX {b : Nat} {kind tenant : Int} {q : Nat → Int} {text rest : List UInt8} {bad : Bool} {w : World} (h : Rd b 55 (rqTl kind tenant q text) rest bad w) (t : List UInt8) : Rd b 55 (rqTl kind tenant q t) rest bad (w.setCell ⟨b, 9, none⟩ (str t)) := Blk.set h 9 _
set_option maxHeartbeats 4000000 in
set_option maxRecDepth 100000 in
theorem rread_c (b : Nat) (rest : List UInt8) (hl : rest.length ≤ 1000000) (w : World) (h : Rd b 55 (rqTl 0 0 (fun _ => 0) []) rest false w) : Calls Try.prog 17 #[.pointer (some ⟨b, 0, none⟩)] w fun e w' =>
    e = .returned (.tuple #[]) ∧ RqAt b (rqP rest) w' ∧ Only [b] w w' := by
  have C1 := Lib.hid (one_c b 55 (rqTl 0 0 (fun _ => 0) []) rest hl false w.drew h)
  have L1 := one_lt rest false
  have LE1 := one_le rest false
  have P := Lib.hid (rqP.eq_1 rest)
  clear h
  obtain ⟨x, hx⟩ : ∃ x, x = oneB rest false := ⟨_, rfl⟩
  rw [← hx] at C1 P L1 LE1
  clear hx
  obtain ⟨k, r1, b1⟩ := x
  simp only at C1 P L1 LE1
  have L2 := one_lt r1 b1
  have LE2 := one_le r1 b1
  have CC := Lib.hid (fun w1 h => one_c b 55 (rqTl 0 0 (fun _ => 0) []) r1 (Nat.le_trans LE1 hl) b1 w1 h)
  obtain ⟨y, hy⟩ : ∃ y, y = oneB r1 b1 := ⟨_, rfl⟩
  rw [← hy] at CC P L2 LE2
  clear hy
  obtain ⟨t, r2, b2⟩ := y
  simp only at CC P L2 LE2
  have W1 : IntKind.i64.wrap (k : Int) = k := IntWalk.i64_in _ (by omega)
  have W2 : IntKind.i64.wrap (t : Int) = t := IntWalk.i64_in _ (by omega)
  have hl2 : r2.length ≤ 1000000 := Nat.le_trans LE2 (Nat.le_trans LE1 hl)
  go_enter Try.func17, Try.ntmps17
  go_upto_region 0 with fail
  go_cut [] (fun wx => Rd b 55 (rqTl k t (fun _ => 0) []) r2 b2 wx ∧ Only [b] w wx)
  case first =>
    go_region_with (first | (go_at_call 27; refine (C1.out).mono ?_; rintro e w1 ⟨rfl, h1, h2⟩; have C2 := Lib.hid (CC.out w1 h1); have H2 := Lib.hid h2; clear h1 h2) | (go_at_call 27; refine (C2.out).mono ?_; rintro e w2 ⟨rfl, h3, h4⟩; have c2 : w2.cell? ⟨b, 2, none⟩ = some (.int .i64 0) := Blk.cell h3 2; have c3 : w2.cell? ⟨b, 3, none⟩ = some (.int .i64 0) := Blk.cell h3 3; have f2 := Rd.free h3 2; have f3 := Rd.free h3 3; have H3 := Lib.hid h3; have H4 := Lib.hid h4; clear h3 h4))
    all_goals (go_wp2_with fail; go_meet)
    all_goals exact ⟨(H3.out.setK k).setT t, ((Only.refl _ _).drew.trans (H2.out.trans H4.out)).set (by simp) _ |>.set (by simp) _⟩
  case rest =>
    clear W1 W2 C1 CC
    have HC := Lib.hid hcut.1
    have HN := Lib.hid hcut.2
    have c2 : wc.cell? ⟨b, 2, none⟩ = some (.int .i64 k) := Blk.cell hcut.1 2
    have f1 := Rd.free hcut.1 1
    clear hcut
    by_cases k1 : k = 1
    · subst k1
      rw [if_pos rfl] at P
      have QC := Lib.hid (quota_c b (1 : Nat) t (fun _ => 0) [] r2 hl2 b2 _ HC.out)
      go_wp2_with fail
      refine QC.out.mono ?_; rintro e w3 ⟨rfl, h1, h2⟩
      go_wp2_with fail
      go_end0
      rw [P.out]
      exact ⟨rfl, h1, HN.out.trans h2⟩
    · rw [if_neg k1] at P
      have e1 : ((k : Int) == 1) = false := by rw [beq_eq_false_iff_ne]; omega
      by_cases k23 : k = 2 ∨ k = 3
      · rw [if_pos k23] at P
        have TC := Lib.hid (text_c b 55 (rqTl k t (fun _ => 0) []) r2 hl2 b2 _ HC.out)
        clear k1 L1 L2
        rcases k23 with rfl | rfl
        all_goals
          go_wp2_with fail
          refine TC.out.mono ?_; rintro e w3 ⟨rfl, h1, h2⟩
          have c9 : w3.cell? ⟨b, 9, none⟩ = some (str []) := Blk.cell h1 9
          have f9 := Rd.free h1 9
          have H1 := Lib.hid h1
          have H2 := Lib.hid h2
          clear h1 h2
          unfold str at c9 ⊢
          go_wp2_with fail
          go_end0
          rw [P.out]
          exact ⟨rfl, H1.out.setX _, (HN.out.trans H2.out).set (by simp) _⟩
      · rw [if_neg k23] at P
        have e2 : ((k : Int) == 2) = false := by rw [beq_eq_false_iff_ne]; omega
        have e3 : ((k : Int) == 3) = false := by rw [beq_eq_false_iff_ne]; omega
        by_cases k4 : k = 4
        · subst k4
          rw [if_pos rfl] at P
          go_wp2_with fail
          go_end0
          rw [P.out]
          exact ⟨rfl, HC.out, HN.out⟩
        · rw [if_neg k4] at P
          have e4 : ((k : Int) == 4) = false := by rw [beq_eq_false_iff_ne]; omega
          have c1 : wc.cell? ⟨b, 1, none⟩ = some (.bool b2) := HC.out.cell1
          clear k1 k23 k4
          go_wp2_with fail
          go_end0
          rw [P.out]
          exact ⟨rfl, HC.out.set1 true, HN.out.set (by simp) _⟩
end Go.Proofs.Ytgcjfjmnccajeaa
