/- The law of responses: its walk. -/
import Derived.Test.YtgcjfjmnccajeaaWire24
import Derived.Test.YtgcjfjmnccajeaaWire27
namespace Go.Proofs.Ytgcjfjmnccajeaa
open Go.RowKit
theorem bytes_list (s : ByteArray) : ∃ l : List UInt8, s = ⟨l.toArray⟩ := ⟨s.data.toList, by rw [Array.toArray_toList]⟩
theorem tokCells_at : ∀ (l : List (Int × Int × Int)) (i : Nat) (h : i < l.length), (tokCells l)[i * 3]? = some (.int .i64 l[i].1) ∧ (tokCells l)[i * 3 + 1]? = some (.int .i64 l[i].2.1) ∧ (tokCells l)[i * 3 + 2]? = some (.int .i64 l[i].2.2)
  | t :: l, 0, _ => ⟨rfl, rfl, rfl⟩
  | t :: l, i + 1, h => by
    have := tokCells_at l i (by simpa using h)
    simp only [tokCells, Nat.succ_mul, List.getElem?_cons_succ, List.getElem_cons_succ]
    exact this
theorem own_toks {w : World} {B : Nat} {v : Value} {l : List (Int × Int × Int)} (h : w.ownsRow B 78 3 v l.length (tokCells l)) : TokS w v l := by
  obtain ⟨_, ⟨rfl, h0⟩ | ⟨g, cap, cur, rfl, hg, hh, _, _, _, ht⟩⟩ := h
  · exact ⟨none, 0, by rw [h0], fun h => by omega⟩
  · refine ⟨_, cap, rfl, fun _ => ⟨g, 0, rfl, (Array.getElem?_eq_some_iff.1 hh).1, fun i hi => ?_⟩⟩
    have K : ∀ j u, (tokCells l)[j]? = some u → w.cell? ⟨g, 0 + j, none⟩ = some u := fun j u hu => by
      rw [Nat.zero_add]
      have : cur[j]? = some u := by
        rw [← ht, List.getElem?_take] at hu
        split at hu
        · simpa using hu
        · cases hu
      unfold World.cell?
      simp [hh, this]
    have := tokCells_at l i hi
    exact ⟨K _ _ this.1, by have := K _ _ this.2.1; simpa [Nat.add_assoc] using this, by have := K _ _ this.2.2; simpa [Nat.add_assoc] using this⟩
set_option maxHeartbeats 4000000 in
set_option maxRecDepth 100000 in
theorem resps_many (r : Rp) (A : Option Addr) (cap : Nat) (b : List UInt8) (w : World) (_hx : TokS w (.slice A r.toks.length cap) r.toks) (_hwf : ∀ t ∈ r.toks, wfI t.2.2) (hb : b.length ≤ 140737488351232) (hf : 300 < r.toks.length) :
    Calls Try.prog 4 #[.agg #[.int .i64 r.err, .int .i64 r.at_, .slice A r.toks.length cap], .string ⟨b.toArray⟩] w fun e w' => e = .returned (.bool true) ∧ Below w.heap.size w w' := by
  clear _hwf _hx
  have AC := Lib.hid (fun w1 => awake_c w1)
  have hsb := mk_size b
  have FC := Lib.hid (fun w1 => few_c r.err r.at_ A r.toks.length cap w1)
  rw [show decide ((r.toks.length : Int) ≤ 300) = false from by simp; omega] at FC
  generalize hsd : (⟨b.toArray⟩ : ByteArray) = sb at *
  clear hsd
  have hsc : sb.size ≤ 140737488351232 := by omega
  clear hsb hb hf
  have B0 := Lib.hid (Blk.made w 36 #[.int .i64 r.err, .int .i64 r.at_, .slice A r.toks.length cap])
  have W0 := Lib.hid (below_alloc (Below.refl w.heap.size w) (.cells #[.int .i64 r.err, .int .i64 r.at_, .slice A r.toks.length cap] 36))
  go_enter Try.func4, Try.ntmps4
  go_wp2_with fail
  refine (AC.out _).mono ?_; rintro e w1 ⟨rfl, k1⟩
  have B1 := Lib.hid (B0.out.below k1)
  have W1 := Lib.hid (below_step W0.out k1)
  have y0 : w1.cell? ⟨w.heap.size, 0, none⟩ = some (.int .i64 r.err) := B1.out.cell 0
  have y1 : w1.cell? ⟨w.heap.size, 1, none⟩ = some (.int .i64 r.at_) := B1.out.cell 1
  have y2 : w1.cell? ⟨w.heap.size, 2, none⟩ = some (.slice A r.toks.length cap) := B1.out.cell 2
  clear k1 B0 W0
  go_wp2_with fail
  refine (FC.out _).mono ?_; rintro e w2 ⟨rfl, k2⟩
  have B2 := Lib.hid (B1.out.below k2)
  have W2 := Lib.hid (below_step W1.out k2)
  clear k2 B1 W1 y0 y1 y2
  go_wp2_with fail
  refine (AC.out _).mono ?_; rintro e w3 ⟨rfl, k3⟩
  go_wp2_with fail
  go_returns
  exact ⟨rfl, below_step W2.out k3⟩
set_option maxHeartbeats 4000000 in
set_option maxRecDepth 100000 in
theorem resps_long (r : Rp) (A : Option Addr) (cap : Nat) (b : List UInt8) (w : World) (_hx : TokS w (.slice A r.toks.length cap) r.toks) (_hwf : ∀ t ∈ r.toks, wfI t.2.2) (hb : b.length ≤ 140737488351232) (hf : r.toks.length ≤ 300) (h3 : 300 < b.length) :
    Calls Try.prog 4 #[.agg #[.int .i64 r.err, .int .i64 r.at_, .slice A r.toks.length cap], .string ⟨b.toArray⟩] w fun e w' => e = .returned (.bool true) ∧ Below w.heap.size w w' := by
  clear _hwf _hx
  have AC := Lib.hid (fun w1 => awake_c w1)
  have hsb := mk_size b
  have FC := Lib.hid (fun w1 => few_c r.err r.at_ A r.toks.length cap w1)
  rw [show decide ((r.toks.length : Int) ≤ 300) = true from by simp; omega] at FC
  generalize hsd : (⟨b.toArray⟩ : ByteArray) = sb at *
  have HSD := Lib.hid hsd
  clear hsd
  have t1 : decide ((300 : Int) < (sb.size : Nat)) = true := by simp; omega
  have hsc : sb.size ≤ 140737488351232 := by omega
  clear hsb hb hf
  have B0 := Lib.hid (Blk.made w 36 #[.int .i64 r.err, .int .i64 r.at_, .slice A r.toks.length cap])
  have W0 := Lib.hid (below_alloc (Below.refl w.heap.size w) (.cells #[.int .i64 r.err, .int .i64 r.at_, .slice A r.toks.length cap] 36))
  go_enter Try.func4, Try.ntmps4
  go_wp2_with fail
  refine (AC.out _).mono ?_; rintro e w1 ⟨rfl, k1⟩
  have B1 := Lib.hid (B0.out.below k1)
  have W1 := Lib.hid (below_step W0.out k1)
  have y0 : w1.cell? ⟨w.heap.size, 0, none⟩ = some (.int .i64 r.err) := B1.out.cell 0
  have y1 : w1.cell? ⟨w.heap.size, 1, none⟩ = some (.int .i64 r.at_) := B1.out.cell 1
  have y2 : w1.cell? ⟨w.heap.size, 2, none⟩ = some (.slice A r.toks.length cap) := B1.out.cell 2
  clear k1 B0 W0
  go_wp2_with fail
  refine (FC.out _).mono ?_; rintro e w2 ⟨rfl, k2⟩
  have B2 := Lib.hid (B1.out.below k2)
  have W2 := Lib.hid (below_step W1.out k2)
  clear k2 B1 W1 y0 y1 y2
  go_wp2_with fail
  refine (AC.out _).mono ?_; rintro e w3 ⟨rfl, k3⟩
  go_wp2_with fail
  go_returns
  exact ⟨rfl, below_step W2.out k3⟩
set_option maxHeartbeats 4000000 in
set_option maxRecDepth 100000 in
theorem resps_no (r : Rp) (A : Option Addr) (cap : Nat) (b : List UInt8) (w : World) (hx : TokS w (.slice A r.toks.length cap) r.toks) (hwf : ∀ t ∈ r.toks, wfI t.2.2) (hb : b.length ≤ 140737488351232) (hf : r.toks.length ≤ 300) (h3 : b.length ≤ 300) (hr : ¬ okR r) :
    Calls Try.prog 4 #[.agg #[.int .i64 r.err, .int .i64 r.at_, .slice A r.toks.length cap], .string ⟨b.toArray⟩] w fun e w' => e = .returned (.bool true) ∧ Below w.heap.size w w' := by
  have PR := Lib.hid (fun w1 h => printR_no r hr hwf (Nat.le_trans hf (by decide)) (.slice A r.toks.length cap) w1 h)
  have RP := Lib.hid (fun w1 h => (rprintR_c r (.slice A r.toks.length cap) w1 h).mono (fun e w' (k : rprintRE r e ∧ Below w1.heap.size w1 w') => show e = .returned (.tuple #[.string { data := #[] }, .bool false]) ∧ Below w1.heap.size w1 w' from ⟨by rcases k.1 with h | h; exact absurd h.1 hr; exact h.2, k.2⟩))
  clear hwf hr
  have h3' := h3
  have AC := Lib.hid (fun w1 => awake_c w1)
  have hsb := mk_size b
  have HB := Lib.hid hb
  have FC := Lib.hid (fun w1 => few_c r.err r.at_ A r.toks.length cap w1)
  rw [show decide ((r.toks.length : Int) ≤ 300) = true from by simp; omega] at FC
  have HX := Lib.hid hx
  generalize hsd : (⟨b.toArray⟩ : ByteArray) = sb at *
  have HSD := Lib.hid hsd
  clear hsd
  have t1 : decide ((300 : Int) < (sb.size : Nat)) = false := by simp; omega
  have hsc : sb.size ≤ 140737488351232 := by omega
  clear hsb hb hx hf
  have B0 := Lib.hid (Blk.made w 36 #[.int .i64 r.err, .int .i64 r.at_, .slice A r.toks.length cap])
  have W0 := Lib.hid (below_alloc (Below.refl w.heap.size w) (.cells #[.int .i64 r.err, .int .i64 r.at_, .slice A r.toks.length cap] 36))
  go_enter Try.func4, Try.ntmps4
  go_wp2_with fail
  refine (AC.out _).mono ?_; rintro e w1 ⟨rfl, k1⟩
  have B1 := Lib.hid (B0.out.below k1)
  have W1 := Lib.hid (below_step W0.out k1)
  have y0 : w1.cell? ⟨w.heap.size, 0, none⟩ = some (.int .i64 r.err) := B1.out.cell 0
  have y1 : w1.cell? ⟨w.heap.size, 1, none⟩ = some (.int .i64 r.at_) := B1.out.cell 1
  have y2 : w1.cell? ⟨w.heap.size, 2, none⟩ = some (.slice A r.toks.length cap) := B1.out.cell 2
  clear k1 B0 W0
  go_wp2_with fail
  refine (FC.out _).mono ?_; rintro e w2 ⟨rfl, k2⟩
  have B2 := Lib.hid (B1.out.below k2)
  have W2 := Lib.hid (below_step W1.out k2)
  clear k2 B1 W1 y0 y1 y2
  have y0 : w2.cell? ⟨w.heap.size, 0, none⟩ = some (.int .i64 r.err) := B2.out.cell 0
  have y1 : w2.cell? ⟨w.heap.size, 1, none⟩ = some (.int .i64 r.at_) := B2.out.cell 1
  have y2 : w2.cell? ⟨w.heap.size, 2, none⟩ = some (.slice A r.toks.length cap) := B2.out.cell 2
  have X2 := Lib.hid (TokS.below HX.out W2.out)
  go_wp2_with fail
  refine (PR.out _ X2.out).mono ?_; rintro e w3 ⟨rfl, k3⟩
  have B3 := Lib.hid (B2.out.below k3)
  have W3 := Lib.hid (below_step W2.out k3)
  have X3 := Lib.hid (TokS.below X2.out k3)
  clear k3 B2 W2 X2 y0 y1 y2
  have y0 : w3.cell? ⟨w.heap.size, 0, none⟩ = some (.int .i64 r.err) := B3.out.cell 0
  have y1 : w3.cell? ⟨w.heap.size, 1, none⟩ = some (.int .i64 r.at_) := B3.out.cell 1
  have y2 : w3.cell? ⟨w.heap.size, 2, none⟩ = some (.slice A r.toks.length cap) := B3.out.cell 2
  go_wp2_with fail
  refine (RP.out _ X3.out).mono ?_; rintro e w4 ⟨rfl, k4⟩
  have B4 := Lib.hid (B3.out.below k4)
  have W4 := Lib.hid (below_step W3.out k4)
  have X4 := Lib.hid (TokS.below X3.out k4)
  clear k4 B3 W3 X3 y0 y1 y2
  have y0 : w4.cell? ⟨w.heap.size, 0, none⟩ = some (.int .i64 r.err) := B4.out.cell 0
  have y1 : w4.cell? ⟨w.heap.size, 1, none⟩ = some (.int .i64 r.at_) := B4.out.cell 1
  have y2 : w4.cell? ⟨w.heap.size, 2, none⟩ = some (.slice A r.toks.length cap) := B4.out.cell 2
  go_wp2_with fail
  rw [← HSD.out, mk_app]
  cases hq : readR ([] ++ b) with
  | none =>
    refine (wreadR_no hq (by simp; omega) _).mono ?_; rintro e w5 ⟨rfl, k5⟩
    have W5 := Lib.hid (below_step W4.out k5)
    go_wp2_with fail
    go_returns
    exact ⟨rfl, below_alloc W5.out _⟩
  | some p =>
    obtain ⟨r5, rest⟩ := p
    refine (wreadR_ok hq (by simp; omega) _).mono ?_; rintro e w5 ⟨⟨v5, rfl, ho5⟩, k5⟩
    have W5 := Lib.hid (below_step W4.out k5)
    obtain ⟨ao5, cap5, rfl, _⟩ := own_toks ho5
    clear ho5
    go_wp2_with fail
    go_returns
    exact ⟨rfl, below_alloc W5.out _⟩
set_option maxHeartbeats 4000000 in
set_option maxRecDepth 100000 in
theorem resps_ok (r : Rp) (A : Option Addr) (cap : Nat) (b : List UInt8) (w : World) (hx : TokS w (.slice A r.toks.length cap) r.toks) (_hwf : ∀ t ∈ r.toks, wfI t.2.2) (hb : b.length ≤ 140737488351232) (hf : r.toks.length ≤ 300) (h3 : b.length ≤ 300) (hr : okR r) :
    Calls Try.prog 4 #[.agg #[.int .i64 r.err, .int .i64 r.at_, .slice A r.toks.length cap], .string ⟨b.toArray⟩] w fun e w' => e = .returned (.bool true) ∧ Below w.heap.size w w' := by
  have PR := Lib.hid (fun w1 h => printR_ok r hr (.slice A r.toks.length cap) w1 h)
  have RP := Lib.hid (fun w1 h => (rprintR_c r (.slice A r.toks.length cap) w1 h).mono (fun e w' (k : rprintRE r e ∧ Below w1.heap.size w1 w') => show e = .returned (.tuple #[.string ⟨(encR r).toArray⟩, .bool true]) ∧ Below w1.heap.size w1 w' from ⟨by rcases k.1 with h | h; exact h.2; exact absurd hr h.1, k.2⟩))
  have LR := encR_len hr
  have RD := Lib.hid (fun w1 => wreadR_ok (readR_enc r hr b) (by simp; omega) w1)
  rw [← mk_app] at RD
  have SE := mk_size (encR r)
  have SM := Lib.hid (fun v5 w1 h1 h2 => same25_c v5 (.slice A r.toks.length cap) r r w1 (by omega) h1 h2)
  rw [show eqR r r = true from by simp [eqR, eqTs]] at SM
  generalize (⟨(encR r).toArray⟩ : ByteArray) = er at *
  have SE2 : er.size ≤ 200000 := by omega
  clear SE LR hr _hwf
  have AC := Lib.hid (fun w1 => awake_c w1)
  have hsb := mk_size b
  have HB := Lib.hid hb
  have FC := Lib.hid (fun w1 => few_c r.err r.at_ A r.toks.length cap w1)
  rw [show decide ((r.toks.length : Int) ≤ 300) = true from by simp; omega] at FC
  have HX := Lib.hid hx
  generalize hsd : (⟨b.toArray⟩ : ByteArray) = sb at *
  have HSD := Lib.hid hsd
  clear hsd
  have t1 : decide ((300 : Int) < (sb.size : Nat)) = false := by simp; omega
  have hsc : sb.size ≤ 140737488351232 := by omega
  clear hsb hb hx hf
  have B0 := Lib.hid (Blk.made w 36 #[.int .i64 r.err, .int .i64 r.at_, .slice A r.toks.length cap])
  have W0 := Lib.hid (below_alloc (Below.refl w.heap.size w) (.cells #[.int .i64 r.err, .int .i64 r.at_, .slice A r.toks.length cap] 36))
  go_enter Try.func4, Try.ntmps4
  go_wp2_with fail
  refine (AC.out _).mono ?_; rintro e w1 ⟨rfl, k1⟩
  have B1 := Lib.hid (B0.out.below k1)
  have W1 := Lib.hid (below_step W0.out k1)
  have y0 : w1.cell? ⟨w.heap.size, 0, none⟩ = some (.int .i64 r.err) := B1.out.cell 0
  have y1 : w1.cell? ⟨w.heap.size, 1, none⟩ = some (.int .i64 r.at_) := B1.out.cell 1
  have y2 : w1.cell? ⟨w.heap.size, 2, none⟩ = some (.slice A r.toks.length cap) := B1.out.cell 2
  clear k1 B0 W0
  go_wp2_with fail
  refine (FC.out _).mono ?_; rintro e w2 ⟨rfl, k2⟩
  have B2 := Lib.hid (B1.out.below k2)
  have W2 := Lib.hid (below_step W1.out k2)
  clear k2 B1 W1 y0 y1 y2
  have y0 : w2.cell? ⟨w.heap.size, 0, none⟩ = some (.int .i64 r.err) := B2.out.cell 0
  have y1 : w2.cell? ⟨w.heap.size, 1, none⟩ = some (.int .i64 r.at_) := B2.out.cell 1
  have y2 : w2.cell? ⟨w.heap.size, 2, none⟩ = some (.slice A r.toks.length cap) := B2.out.cell 2
  have X2 := Lib.hid (TokS.below HX.out W2.out)
  go_wp2_with fail
  refine (PR.out _ X2.out).mono ?_; rintro e w3 ⟨rfl, k3⟩
  have B3 := Lib.hid (B2.out.below k3)
  have W3 := Lib.hid (below_step W2.out k3)
  have X3 := Lib.hid (TokS.below X2.out k3)
  clear k3 B2 W2 X2 y0 y1 y2
  have y0 : w3.cell? ⟨w.heap.size, 0, none⟩ = some (.int .i64 r.err) := B3.out.cell 0
  have y1 : w3.cell? ⟨w.heap.size, 1, none⟩ = some (.int .i64 r.at_) := B3.out.cell 1
  have y2 : w3.cell? ⟨w.heap.size, 2, none⟩ = some (.slice A r.toks.length cap) := B3.out.cell 2
  go_wp2_with fail
  refine (RP.out _ X3.out).mono ?_; rintro e w4 ⟨rfl, k4⟩
  have B4 := Lib.hid (B3.out.below k4)
  have W4 := Lib.hid (below_step W3.out k4)
  have X4 := Lib.hid (TokS.below X3.out k4)
  clear k4 B3 W3 X3 y0 y1 y2
  have y0 : w4.cell? ⟨w.heap.size, 0, none⟩ = some (.int .i64 r.err) := B4.out.cell 0
  have y1 : w4.cell? ⟨w.heap.size, 1, none⟩ = some (.int .i64 r.at_) := B4.out.cell 1
  have y2 : w4.cell? ⟨w.heap.size, 2, none⟩ = some (.slice A r.toks.length cap) := B4.out.cell 2
  go_wp2_with fail
  refine (RD.out _).mono ?_; rintro e w5 ⟨⟨v5, rfl, ho5⟩, k5⟩
  have B5 := Lib.hid (B4.out.below k5)
  have W5 := Lib.hid (below_step W4.out k5)
  have X5 := Lib.hid (TokS.below X4.out k5)
  have T5 := Lib.hid (own_toks ho5)
  obtain ⟨ao5, cap5, rfl, _⟩ := own_toks ho5
  clear k5 B4 W4 X4 y0 y1 y2 ho5
  have B6 := Lib.hid (B5.out.alloc (.cells #[.int .i64 r.err, .int .i64 r.at_, .slice ao5 r.toks.length cap5] 36))
  have W6 := Lib.hid (below_alloc W5.out (.cells #[.int .i64 r.err, .int .i64 r.at_, .slice ao5 r.toks.length cap5] 36))
  have X6 := Lib.hid (TokS.below X5.out (below_alloc (Below.refl _ _) (.cells #[.int .i64 r.err, .int .i64 r.at_, .slice ao5 r.toks.length cap5] 36)))
  have T6 := Lib.hid (TokS.below T5.out (below_alloc (Below.refl _ _) (.cells #[.int .i64 r.err, .int .i64 r.at_, .slice ao5 r.toks.length cap5] 36)))
  have l5 := B5.out.lt
  clear B5 W5 X5 T5
  have y0 : (w5.alloc (.cells #[.int .i64 r.err, .int .i64 r.at_, .slice ao5 r.toks.length cap5] 36)).cell? ⟨w.heap.size, 0, none⟩ = some (.int .i64 r.err) := B6.out.cell 0
  have y1 : (w5.alloc (.cells #[.int .i64 r.err, .int .i64 r.at_, .slice ao5 r.toks.length cap5] 36)).cell? ⟨w.heap.size, 1, none⟩ = some (.int .i64 r.at_) := B6.out.cell 1
  have y2 : (w5.alloc (.cells #[.int .i64 r.err, .int .i64 r.at_, .slice ao5 r.toks.length cap5] 36)).cell? ⟨w.heap.size, 2, none⟩ = some (.slice A r.toks.length cap) := B6.out.cell 2
  go_wp2_with (go_at_call 13; refine (SM.out _ _ T6.out X6.out).mono ?_; rintro e w7 ⟨rfl, k7⟩)
  go_returns
  exact ⟨rfl, below_step W6.out k7⟩
theorem responses_c (r : Rp) (x : Value) (b : List UInt8) (w : World) (hx : TokS w x r.toks) (hwf : ∀ t ∈ r.toks, wfI t.2.2) (hb : b.length ≤ 140737488351232) :
    Calls Try.prog 4 #[.agg #[.int .i64 r.err, .int .i64 r.at_, x], .string ⟨b.toArray⟩] w fun e w' => e = .returned (.bool true) ∧ Below w.heap.size w w' := by
  obtain ⟨A, cap, rfl, h⟩ := hx
  by_cases hf : 300 < r.toks.length
  · exact resps_many r A cap b w ⟨A, cap, rfl, h⟩ hwf hb hf
  · by_cases h3 : 300 < b.length
    · exact resps_long r A cap b w ⟨A, cap, rfl, h⟩ hwf hb (by omega) h3
    · by_cases hr : okR r
      · exact resps_ok r A cap b w ⟨A, cap, rfl, h⟩ hwf hb (by omega) (by omega) hr
      · exact resps_no r A cap b w ⟨A, cap, rfl, h⟩ hwf hb (by omega) (by omega) hr
end Go.Proofs.Ytgcjfjmnccajeaa
