/- The wire's request reader: its five numbers. -/
import Derived.Test.YtgcjfjmnccajeaaWire4
import Derived.RegionTactic
import Derived.ChangeAlike
import Derived.BigRegion
import Derived.Deep.RegionWith
namespace Go.Proofs.Ytgcjfjmnccajeaa
open Go.RowKit
/-- The cells of a request reader behind its reader. -/
def rqTl (kind tenant : Int) (q : Nat → Int) (text : List UInt8) : List Value := [.int .i64 kind, .int .i64 tenant, .int .i64 (q 0), .int .i64 (q 1), .int .i64 (q 2), .int .i64 (q 3), .int .i64 (q 4), str text]
def upd (q : Nat → Int) (k : Nat) (n : Int) : Nat → Int := fun i => if i = k then n else q i
/-- The five numbers, from the place 5 - f on. -/
def quotaF : Nat → (Nat → Int) → List UInt8 → Bool → (Nat → Int) × List UInt8 × Bool
  | 0, q, r, bd => (q, r, bd)
  | f + 1, q, r, bd => quotaF f (upd q (5 - (f + 1)) (rdP most 7 0 0 r bd).1) (rdP most 7 0 0 r bd).2.1 (rdP most 7 0 0 r bd).2.2
theorem Rd.setQ {b : Nat} {kind tenant : Int} {q : Nat → Int} {text rest : List UInt8} {bad : Bool} {w : World} (h : Rd b 55 (rqTl kind tenant q text) rest bad w) (k : Nat) (hk : k < 5) (n : Int) :
    Rd b 55 (rqTl kind tenant (upd q k n) text) rest bad (w.setCell ⟨b, 4 + k, none⟩ (.int .i64 n)) := by
  refine (Blk.set h (4 + k) (.int .i64 n)).cast ?_
  have : k = 0 ∨ k = 1 ∨ k = 2 ∨ k = 3 ∨ k = 4 := by omega
  rcases this with rfl | rfl | rfl | rfl | rfl <;> rfl
def ptrs (b : Nat) : Array Value := #[.pointer (some ⟨b, 4, none⟩), .pointer (some ⟨b, 5, none⟩), .pointer (some ⟨b, 6, none⟩), .pointer (some ⟨b, 7, none⟩), .pointer (some ⟨b, 8, none⟩)]
theorem ptrs_at (b k : Nat) (hk : k < 5) : (ptrs b)[k]? = some (.pointer (some ⟨b, 4 + k, none⟩)) := by
  have : k = 0 ∨ k = 1 ∨ k = 2 ∨ k = 3 ∨ k = 4 := by omega
  rcases this with rfl | rfl | rfl | rfl | rfl <;> rfl
theorem quota_cell {b : Nat} {kind tenant : Int} {q : Nat → Int} {text rest : List UInt8} {bad : Bool} {w : World} (h : Rd b 55 (rqTl kind tenant q text) rest bad w) (k : Nat) (hk : k < 5) : w.cell? ⟨b, 4 + k, none⟩ = some (.int .i64 (q k)) := by
  rw [Blk.cell h]
  have : k = 0 ∨ k = 1 ∨ k = 2 ∨ k = 3 ∨ k = 4 := by omega
  rcases this with rfl | rfl | rfl | rfl | rfl <;> rfl
set_option maxHeartbeats 2000000 in
set_option maxRecDepth 100000 in
theorem quota_c (b : Nat) (k t : Int) (q : Nat → Int) (text rest : List UInt8) (hl : rest.length ≤ 1000000) (bad : Bool) (w : World) (h : Rd b 55 (rqTl k t q text) rest bad w) : Calls Try.prog 28 #[.pointer (some ⟨b, 0, none⟩)] w fun e w' => e = .returned (.tuple #[]) ∧
    Rd b 55 (rqTl k t (quotaF 5 q rest bad).1 text) (quotaF 5 q rest bad).2.1 (quotaF 5 q rest bad).2.2 w' ∧ Only [b] w w' := by
  have HH := Lib.hid h
  have hb := Blk.lt h
  have NC := Lib.hid (fun q rest hl bad w1 h => num_c most b 55 (rqTl k t q text) rest hl bad w1 h)
  clear h
  go_enter Try.func28, Try.ntmps28
  go_wp2_with fail
  go_region
  go_wp2_with fail
  have hw1 : Blk (w.alloc (.cells (ptrs b) 89)).drew w.heap.size 89 (ptrs b) := Blk.made _ _ _
  go_loopw [4, 26] (fun _ v26 wr => ∃ (i : Nat) (q1 : Nat → Int) (r : List UInt8) (bd : Bool), i ≤ 5 ∧ v26 = .int .i64 i ∧ r.length ≤ rest.length ∧ quotaF 5 q rest bad = quotaF (5 - i) q1 r bd ∧ Blk wr w.heap.size 89 (ptrs b) ∧ Rd b 55 (rqTl k t q1 text) r bd wr ∧ Only [b] w wr) (fun _ v26 _ => 5 - (intOf v26).toNat)
  case atStart => exact ⟨0, q, rest, bad, by omega, rfl, Nat.le_refl _, rfl, hw1, Blk.drew (Blk.alloc HH.out _), ((Only.refl _ _).alloc _).drew⟩
  case round =>
    clear hw1
    obtain ⟨i, q1, r, bd, hi, rfl, hr, heq, hpt, hrd, hon⟩ := hrel
    have HE := Lib.hid heq
    have HP := Lib.hid hpt
    have HR := Lib.hid hrd
    have HN := Lib.hid hon
    clear heq hrd hon hpt
    by_cases hlt : i < 5
    · have t1 : decide ((i : Int) < 5) = true := by simp; omega
      have p1 : wr.cell? ⟨w.heap.size, i, none⟩ = some (.pointer (some ⟨b, 4 + i, none⟩)) := (HP.out.cell i).trans (ptrs_at b i hlt)
      have C := Lib.hid (NC.out q1 r (by omega) bd _ HR.out)
      go_wp2_with fail
      refine C.out.mono ?_; rintro e w1 ⟨rfl, h1, h2⟩
      have H1 := Lib.hid h1
      have H2 := Lib.hid (HN.out.trans h2)
      have H3 := Lib.hid (HP.out.only h2 (by simp; omega))
      clear h1 h2
      have c1 := quota_cell H1.out i hlt
      have f1 := H1.out.free (4 + i)
      have HX := Lib.hid (show quotaF (5 - i) q1 r bd = quotaF (5 - (i + 1)) (upd q1 i (rdP most 7 0 0 r bd).1) (rdP most 7 0 0 r bd).2.1 (rdP most 7 0 0 r bd).2.2 from by
        rw [show 5 - i = (5 - (i + 1)) + 1 from by omega]
        show quotaF _ (upd q1 (5 - (5 - (i + 1) + 1)) _) _ _ = _
        rw [show 5 - (5 - (i + 1) + 1) = i from by omega])
      have LE := rdP_len most 7 0 0 r bd
      go_wp2_with fail
      go_roundw
      case rel => exact ⟨i + 1, _, _, _, by omega, by go_num, Nat.le_trans LE hr, HE.out.trans HX.out, Blk.far H3.out (by simp; omega) _, H1.out.setQ i hlt _, H2.out.set (by simp) _⟩
      case measure => simp [intOf]; omega
    · have e : i = 5 := by omega
      subst e
      go_wp2_with fail
      go_end0
      rw [HE.out]
      exact ⟨rfl, HR.out, HN.out⟩
end Go.Proofs.Ytgcjfjmnccajeaa
