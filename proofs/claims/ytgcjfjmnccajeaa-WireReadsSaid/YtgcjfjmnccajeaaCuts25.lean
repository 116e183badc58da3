/- The law of cuts: its walk. -/
import Derived.Test.YtgcjfjmnccajeaaWire21
namespace Go.Proofs.Ytgcjfjmnccajeaa
open Go.RowKit
set_option maxHeartbeats 1000000 in
theorem few_c (a b : Int) (A : Option Addr) (len cap : Nat) (w : World) : Calls Try.prog 15 #[.agg #[.int .i64 a, .int .i64 b, .slice A len cap]] w fun e w' => e = .returned (.bool (decide ((len : Int) ≤ 300))) ∧ Below w.heap.size w w' := by
  go_enter Try.func15, Try.ntmps15
  go_wp2_with fail
  go_returns
  exact ⟨rfl, below_alloc (Below.refl _ _) _⟩
theorem encTs_len : ∀ (l : List (Int × Int × Int)), (encTs l).length ≤ 33 * l.length
  | [] => Nat.le_refl _
  | t :: l => by
    have := encTs_len l
    have e := fun n => encN_len n
    have := e t.1.toNat; have := e t.2.1.toNat; have := e (t.2.2 - t.2.1).toNat
    simp [encTs, encT, encNs]; omega
theorem encR_len {r : Rp} (h : okR r) : (encR r).length ≤ 200000 := by
  have h4 := h.2.2.2.1
  have := encTs_len r.toks
  have e := fun n => encN_len n
  have := e r.at_.toNat; have := e r.toks.length
  simp [encR, encNs]; omega
theorem TokS.below {w w' : World} {v : Value} {ts : List (Int × Int × Int)} (h : TokS w v ts) (k : Below w.heap.size w w') : TokS w' v ts := by
  obtain ⟨ao, cap, rfl, h⟩ := h
  refine ⟨ao, cap, rfl, fun h0 => ?_⟩
  obtain ⟨b, off, rfl, hb, hc⟩ := h h0
  exact ⟨b, off, rfl, Nat.lt_of_lt_of_le hb k.size, fun i hi => ⟨(k.cell (p := ⟨b, _, none⟩) hb).trans (hc i hi).1, (k.cell (p := ⟨b, _, none⟩) hb).trans (hc i hi).2.1, (k.cell (p := ⟨b, _, none⟩) hb).trans (hc i hi).2.2⟩⟩
set_option maxHeartbeats 4000000 in
set_option maxRecDepth 100000 in
theorem cuts_text (a : Rq) (r : Rp) (A : Option Addr) (cap : Nat) (c : Int) (w : World) (_hx : TokS w (.slice A r.toks.length cap) r.toks) (_hwf : ∀ t ∈ r.toks, wfI t.2.2) (hta : a.text.length ≤ 140737488351232) (h5 : 5000 < a.text.length) :
    Calls Try.prog 5 #[.agg #[.int .i64 a.kind, .int .i64 a.tenant, .int .i64 a.q0, .int .i64 a.q1, .int .i64 a.q2, .int .i64 a.q3, .int .i64 a.q4, .string ⟨a.text.toArray⟩], .agg #[.int .i64 r.err, .int .i64 r.at_, .slice A r.toks.length cap], .int .i64 c] w fun e w' => e = .returned (.bool true) ∧ Below w.heap.size w w' := by
  have AC := Lib.hid (fun w1 => awake_c w1)
  have hsa := mk_size a.text
  generalize hsd : (⟨a.text.toArray⟩ : ByteArray) = sa at *
  have HSD := Lib.hid hsd
  clear hsd
  have hsb : sa.size ≤ 140737488351232 := by omega
  have t1 : decide ((5000 : Int) < (sa.size : Nat)) = true := by simp; omega
  clear hsa h5 hta
  have A0 := Lib.hid (Blk.alloc (Blk.made w 26 #[.int .i64 a.kind, .int .i64 a.tenant, .int .i64 a.q0, .int .i64 a.q1, .int .i64 a.q2, .int .i64 a.q3, .int .i64 a.q4, .string sa]) (.cells #[.int .i64 r.err, .int .i64 r.at_, .slice A r.toks.length cap] 36))
  have B0 := Lib.hid (show Blk ((w.alloc (.cells #[.int .i64 a.kind, .int .i64 a.tenant, .int .i64 a.q0, .int .i64 a.q1, .int .i64 a.q2, .int .i64 a.q3, .int .i64 a.q4, .string sa] 26)).alloc (.cells #[.int .i64 r.err, .int .i64 r.at_, .slice A r.toks.length cap] 36)) (w.heap.size + 1) 36 #[.int .i64 r.err, .int .i64 r.at_, .slice A r.toks.length cap] from by
    have := Blk.made (w.alloc (.cells #[.int .i64 a.kind, .int .i64 a.tenant, .int .i64 a.q0, .int .i64 a.q1, .int .i64 a.q2, .int .i64 a.q3, .int .i64 a.q4, .string sa] 26)) 36 #[.int .i64 r.err, .int .i64 r.at_, .slice A r.toks.length cap]
    rw [World.size_alloc] at this
    exact this)
  have W0 := Lib.hid (below_alloc (below_alloc (Below.refl w.heap.size w) (.cells #[.int .i64 a.kind, .int .i64 a.tenant, .int .i64 a.q0, .int .i64 a.q1, .int .i64 a.q2, .int .i64 a.q3, .int .i64 a.q4, .string sa] 26)) (.cells #[.int .i64 r.err, .int .i64 r.at_, .slice A r.toks.length cap] 36))
  go_enter Try.func5, Try.ntmps5
  go_wp2_with fail
  refine (AC.out _).mono ?_; rintro e w1 ⟨rfl, k1⟩
  have A1 := Lib.hid (A0.out.below k1)
  have B1 := Lib.hid (B0.out.below k1)
  have W1 := Lib.hid (below_step W0.out k1)
  have x0 : w1.cell? ⟨w.heap.size, 0, none⟩ = some (.int .i64 a.kind) := A1.out.cell 0
  have x1 : w1.cell? ⟨w.heap.size, 1, none⟩ = some (.int .i64 a.tenant) := A1.out.cell 1
  have x2 : w1.cell? ⟨w.heap.size, 2, none⟩ = some (.int .i64 a.q0) := A1.out.cell 2
  have x3 : w1.cell? ⟨w.heap.size, 3, none⟩ = some (.int .i64 a.q1) := A1.out.cell 3
  have x4 : w1.cell? ⟨w.heap.size, 4, none⟩ = some (.int .i64 a.q2) := A1.out.cell 4
  have x5 : w1.cell? ⟨w.heap.size, 5, none⟩ = some (.int .i64 a.q3) := A1.out.cell 5
  have x6 : w1.cell? ⟨w.heap.size, 6, none⟩ = some (.int .i64 a.q4) := A1.out.cell 6
  have x7 : w1.cell? ⟨w.heap.size, 7, none⟩ = some (.string sa) := A1.out.cell 7
  have y0 : w1.cell? ⟨w.heap.size + 1, 0, none⟩ = some (.int .i64 r.err) := B1.out.cell 0
  have y1 : w1.cell? ⟨w.heap.size + 1, 1, none⟩ = some (.int .i64 r.at_) := B1.out.cell 1
  have y2 : w1.cell? ⟨w.heap.size + 1, 2, none⟩ = some (.slice A r.toks.length cap) := B1.out.cell 2
  clear k1 A0 B0 W0
  go_wp2_with fail
  refine (AC.out _).mono ?_; rintro e w2 ⟨rfl, k2⟩
  go_wp2_with fail
  go_returns
  exact ⟨rfl, below_step W1.out k2⟩
set_option maxHeartbeats 4000000 in
set_option maxRecDepth 100000 in
theorem cuts_many (a : Rq) (r : Rp) (A : Option Addr) (cap : Nat) (c : Int) (w : World) (_hx : TokS w (.slice A r.toks.length cap) r.toks) (_hwf : ∀ t ∈ r.toks, wfI t.2.2) (hta : a.text.length ≤ 140737488351232) (h5 : a.text.length ≤ 5000) (hf : 300 < r.toks.length) :
    Calls Try.prog 5 #[.agg #[.int .i64 a.kind, .int .i64 a.tenant, .int .i64 a.q0, .int .i64 a.q1, .int .i64 a.q2, .int .i64 a.q3, .int .i64 a.q4, .string ⟨a.text.toArray⟩], .agg #[.int .i64 r.err, .int .i64 r.at_, .slice A r.toks.length cap], .int .i64 c] w fun e w' => e = .returned (.bool true) ∧ Below w.heap.size w w' := by
  have AC := Lib.hid (fun w1 => awake_c w1)
  have hsa := mk_size a.text
  generalize hsd : (⟨a.text.toArray⟩ : ByteArray) = sa at *
  have HSD := Lib.hid hsd
  clear hsd
  have hsb : sa.size ≤ 140737488351232 := by omega
  have t1 : decide ((5000 : Int) < (sa.size : Nat)) = false := by simp; omega
  have FC := Lib.hid (fun w1 => few_c r.err r.at_ A r.toks.length cap w1)
  rw [show decide ((r.toks.length : Int) ≤ 300) = false from by simp; omega] at FC
  clear hsa h5 hta hf
  have A0 := Lib.hid (Blk.alloc (Blk.made w 26 #[.int .i64 a.kind, .int .i64 a.tenant, .int .i64 a.q0, .int .i64 a.q1, .int .i64 a.q2, .int .i64 a.q3, .int .i64 a.q4, .string sa]) (.cells #[.int .i64 r.err, .int .i64 r.at_, .slice A r.toks.length cap] 36))
  have B0 := Lib.hid (show Blk ((w.alloc (.cells #[.int .i64 a.kind, .int .i64 a.tenant, .int .i64 a.q0, .int .i64 a.q1, .int .i64 a.q2, .int .i64 a.q3, .int .i64 a.q4, .string sa] 26)).alloc (.cells #[.int .i64 r.err, .int .i64 r.at_, .slice A r.toks.length cap] 36)) (w.heap.size + 1) 36 #[.int .i64 r.err, .int .i64 r.at_, .slice A r.toks.length cap] from by
    have := Blk.made (w.alloc (.cells #[.int .i64 a.kind, .int .i64 a.tenant, .int .i64 a.q0, .int .i64 a.q1, .int .i64 a.q2, .int .i64 a.q3, .int .i64 a.q4, .string sa] 26)) 36 #[.int .i64 r.err, .int .i64 r.at_, .slice A r.toks.length cap]
    rw [World.size_alloc] at this
    exact this)
  have W0 := Lib.hid (below_alloc (below_alloc (Below.refl w.heap.size w) (.cells #[.int .i64 a.kind, .int .i64 a.tenant, .int .i64 a.q0, .int .i64 a.q1, .int .i64 a.q2, .int .i64 a.q3, .int .i64 a.q4, .string sa] 26)) (.cells #[.int .i64 r.err, .int .i64 r.at_, .slice A r.toks.length cap] 36))
  go_enter Try.func5, Try.ntmps5
  go_wp2_with fail
  refine (AC.out _).mono ?_; rintro e w1 ⟨rfl, k1⟩
  have A1 := Lib.hid (A0.out.below k1)
  have B1 := Lib.hid (B0.out.below k1)
  have W1 := Lib.hid (below_step W0.out k1)
  have x0 : w1.cell? ⟨w.heap.size, 0, none⟩ = some (.int .i64 a.kind) := A1.out.cell 0
  have x1 : w1.cell? ⟨w.heap.size, 1, none⟩ = some (.int .i64 a.tenant) := A1.out.cell 1
  have x2 : w1.cell? ⟨w.heap.size, 2, none⟩ = some (.int .i64 a.q0) := A1.out.cell 2
  have x3 : w1.cell? ⟨w.heap.size, 3, none⟩ = some (.int .i64 a.q1) := A1.out.cell 3
  have x4 : w1.cell? ⟨w.heap.size, 4, none⟩ = some (.int .i64 a.q2) := A1.out.cell 4
  have x5 : w1.cell? ⟨w.heap.size, 5, none⟩ = some (.int .i64 a.q3) := A1.out.cell 5
  have x6 : w1.cell? ⟨w.heap.size, 6, none⟩ = some (.int .i64 a.q4) := A1.out.cell 6
  have x7 : w1.cell? ⟨w.heap.size, 7, none⟩ = some (.string sa) := A1.out.cell 7
  have y0 : w1.cell? ⟨w.heap.size + 1, 0, none⟩ = some (.int .i64 r.err) := B1.out.cell 0
  have y1 : w1.cell? ⟨w.heap.size + 1, 1, none⟩ = some (.int .i64 r.at_) := B1.out.cell 1
  have y2 : w1.cell? ⟨w.heap.size + 1, 2, none⟩ = some (.slice A r.toks.length cap) := B1.out.cell 2
  clear k1 A0 B0 W0
  go_wp2_with fail
  refine (FC.out _).mono ?_; rintro e w2 ⟨rfl, k2⟩
  go_wp2_with fail
  refine (AC.out _).mono ?_; rintro e w3 ⟨rfl, k3⟩
  go_wp2_with fail
  go_returns
  exact ⟨rfl, below_step (below_step W1.out k2) k3⟩
set_option maxHeartbeats 4000000 in
set_option maxRecDepth 100000 in
theorem cuts_nn (a : Rq) (r : Rp) (A : Option Addr) (cap : Nat) (c : Int) (w : World) (hx : TokS w (.slice A r.toks.length cap) r.toks) (hwf : ∀ t ∈ r.toks, wfI t.2.2) (hta : a.text.length ≤ 140737488351232) (h5 : a.text.length ≤ 5000) (hf : r.toks.length ≤ 300) (ha : ¬ okQ a) (hr : ¬ okR r) :
    Calls Try.prog 5 #[.agg #[.int .i64 a.kind, .int .i64 a.tenant, .int .i64 a.q0, .int .i64 a.q1, .int .i64 a.q2, .int .i64 a.q3, .int .i64 a.q4, .string ⟨a.text.toArray⟩], .agg #[.int .i64 r.err, .int .i64 r.at_, .slice A r.toks.length cap], .int .i64 c] w fun e w' => e = .returned (.bool true) ∧ Below w.heap.size w w' := by
  have AC := Lib.hid (fun w1 => awake_c w1)
  have PA := Lib.hid (fun w1 => print_no a ha (Nat.le_trans h5 (by decide)) w1)
  unfold rqA str at PA
  have PR := Lib.hid (fun w1 h => printR_no r hr hwf (Nat.le_trans hf (by decide)) (.slice A r.toks.length cap) w1 h)
  have hsa := mk_size a.text
  generalize hsd : (⟨a.text.toArray⟩ : ByteArray) = sa at *
  have HSD := Lib.hid hsd
  clear hsd
  have hsb : sa.size ≤ 140737488351232 := by omega
  have t1 : decide ((5000 : Int) < (sa.size : Nat)) = false := by simp; omega
  have FC := Lib.hid (fun w1 => few_c r.err r.at_ A r.toks.length cap w1)
  rw [show decide ((r.toks.length : Int) ≤ 300) = true from by simp; omega] at FC
  have HX := Lib.hid hx
  clear hsa h5 hta hx hf
  have A0 := Lib.hid (Blk.alloc (Blk.made w 26 #[.int .i64 a.kind, .int .i64 a.tenant, .int .i64 a.q0, .int .i64 a.q1, .int .i64 a.q2, .int .i64 a.q3, .int .i64 a.q4, .string sa]) (.cells #[.int .i64 r.err, .int .i64 r.at_, .slice A r.toks.length cap] 36))
  have B0 := Lib.hid (show Blk ((w.alloc (.cells #[.int .i64 a.kind, .int .i64 a.tenant, .int .i64 a.q0, .int .i64 a.q1, .int .i64 a.q2, .int .i64 a.q3, .int .i64 a.q4, .string sa] 26)).alloc (.cells #[.int .i64 r.err, .int .i64 r.at_, .slice A r.toks.length cap] 36)) (w.heap.size + 1) 36 #[.int .i64 r.err, .int .i64 r.at_, .slice A r.toks.length cap] from by
    have := Blk.made (w.alloc (.cells #[.int .i64 a.kind, .int .i64 a.tenant, .int .i64 a.q0, .int .i64 a.q1, .int .i64 a.q2, .int .i64 a.q3, .int .i64 a.q4, .string sa] 26)) 36 #[.int .i64 r.err, .int .i64 r.at_, .slice A r.toks.length cap]
    rw [World.size_alloc] at this
    exact this)
  have W0 := Lib.hid (below_alloc (below_alloc (Below.refl w.heap.size w) (.cells #[.int .i64 a.kind, .int .i64 a.tenant, .int .i64 a.q0, .int .i64 a.q1, .int .i64 a.q2, .int .i64 a.q3, .int .i64 a.q4, .string sa] 26)) (.cells #[.int .i64 r.err, .int .i64 r.at_, .slice A r.toks.length cap] 36))
  go_enter Try.func5, Try.ntmps5
  go_wp2_with fail
  refine (AC.out _).mono ?_; rintro e w1 ⟨rfl, k1⟩
  have A1 := Lib.hid (A0.out.below k1)
  have B1 := Lib.hid (B0.out.below k1)
  have W1 := Lib.hid (below_step W0.out k1)
  have x0 : w1.cell? ⟨w.heap.size, 0, none⟩ = some (.int .i64 a.kind) := A1.out.cell 0
  have x1 : w1.cell? ⟨w.heap.size, 1, none⟩ = some (.int .i64 a.tenant) := A1.out.cell 1
  have x2 : w1.cell? ⟨w.heap.size, 2, none⟩ = some (.int .i64 a.q0) := A1.out.cell 2
  have x3 : w1.cell? ⟨w.heap.size, 3, none⟩ = some (.int .i64 a.q1) := A1.out.cell 3
  have x4 : w1.cell? ⟨w.heap.size, 4, none⟩ = some (.int .i64 a.q2) := A1.out.cell 4
  have x5 : w1.cell? ⟨w.heap.size, 5, none⟩ = some (.int .i64 a.q3) := A1.out.cell 5
  have x6 : w1.cell? ⟨w.heap.size, 6, none⟩ = some (.int .i64 a.q4) := A1.out.cell 6
  have x7 : w1.cell? ⟨w.heap.size, 7, none⟩ = some (.string sa) := A1.out.cell 7
  have y0 : w1.cell? ⟨w.heap.size + 1, 0, none⟩ = some (.int .i64 r.err) := B1.out.cell 0
  have y1 : w1.cell? ⟨w.heap.size + 1, 1, none⟩ = some (.int .i64 r.at_) := B1.out.cell 1
  have y2 : w1.cell? ⟨w.heap.size + 1, 2, none⟩ = some (.slice A r.toks.length cap) := B1.out.cell 2
  clear k1 A0 B0 W0
  have X1 := Lib.hid ((HX.out.below W1.out))
  go_wp2_with fail
  refine (FC.out _).mono ?_; rintro e w2 ⟨rfl, k2⟩
  have A2 := Lib.hid (A1.out.below k2)
  have B2 := Lib.hid (B1.out.below k2)
  have W2 := Lib.hid (below_step W1.out k2)
  clear k2 A1 B1
  clear x0 x1 x2 x3 x4 x5 x6 x7 y0 y1 y2
  have x0 : w2.cell? ⟨w.heap.size, 0, none⟩ = some (.int .i64 a.kind) := A2.out.cell 0
  have x1 : w2.cell? ⟨w.heap.size, 1, none⟩ = some (.int .i64 a.tenant) := A2.out.cell 1
  have x2 : w2.cell? ⟨w.heap.size, 2, none⟩ = some (.int .i64 a.q0) := A2.out.cell 2
  have x3 : w2.cell? ⟨w.heap.size, 3, none⟩ = some (.int .i64 a.q1) := A2.out.cell 3
  have x4 : w2.cell? ⟨w.heap.size, 4, none⟩ = some (.int .i64 a.q2) := A2.out.cell 4
  have x5 : w2.cell? ⟨w.heap.size, 5, none⟩ = some (.int .i64 a.q3) := A2.out.cell 5
  have x6 : w2.cell? ⟨w.heap.size, 6, none⟩ = some (.int .i64 a.q4) := A2.out.cell 6
  have x7 : w2.cell? ⟨w.heap.size, 7, none⟩ = some (.string sa) := A2.out.cell 7
  go_wp2_with fail
  refine (PA.out _).mono ?_; rintro e w3 ⟨rfl, k3⟩
  have A3 := Lib.hid (A2.out.below k3)
  have B3 := Lib.hid (B2.out.below k3)
  have W3 := Lib.hid (below_step W2.out k3)
  clear k3 A2 B2 x0 x1 x2 x3 x4 x5 x6 x7
  have y0 : w3.cell? ⟨w.heap.size + 1, 0, none⟩ = some (.int .i64 r.err) := B3.out.cell 0
  have y1 : w3.cell? ⟨w.heap.size + 1, 1, none⟩ = some (.int .i64 r.at_) := B3.out.cell 1
  have y2 : w3.cell? ⟨w.heap.size + 1, 2, none⟩ = some (.slice A r.toks.length cap) := B3.out.cell 2
  go_wp2_with fail
  refine (PR.out _ (HX.out.below W3.out)).mono ?_; rintro e w4 ⟨rfl, k4⟩
  have W4 := Lib.hid (below_step W3.out k4)
  clear k4
  go_wp2_with fail
  go_returns
  exact ⟨rfl, W4.out⟩
set_option maxHeartbeats 4000000 in
set_option maxRecDepth 100000 in
theorem cuts_yy (a : Rq) (r : Rp) (A : Option Addr) (cap : Nat) (c : Int) (w : World) (hx : TokS w (.slice A r.toks.length cap) r.toks) (_hwf : ∀ t ∈ r.toks, wfI t.2.2) (hta : a.text.length ≤ 140737488351232) (h5 : a.text.length ≤ 5000) (hf : r.toks.length ≤ 300) (ha : okQ a) (hr : okR r) :
    Calls Try.prog 5 #[.agg #[.int .i64 a.kind, .int .i64 a.tenant, .int .i64 a.q0, .int .i64 a.q1, .int .i64 a.q2, .int .i64 a.q3, .int .i64 a.q4, .string ⟨a.text.toArray⟩], .agg #[.int .i64 r.err, .int .i64 r.at_, .slice A r.toks.length cap], .int .i64 c] w fun e w' => e = .returned (.bool true) ∧ Below w.heap.size w w' := by
  have AC := Lib.hid (fun w1 => awake_c w1)
  have PA := Lib.hid (fun w1 => print_ok a ha w1)
  unfold rqA str at PA
  have PR := Lib.hid (fun w1 h => printR_ok r hr (.slice A r.toks.length cap) w1 h)
  obtain ⟨m, hm⟩ : ∃ m : Nat, IntKind.u64.wrap c = (m : Nat) := ⟨(IntKind.u64.wrap c).toNat, by rw [IntKind.wrap_u64]; omega⟩
  have LA := encQ_len ha
  have NA : 0 < (encQ a).length := List.length_pos_iff.2 encQ_ne
  have CA := Lib.hid (fun k (hk : k < (encQ a).length) w1 => wread_no (l := (encQ a).take k) (readQ_cut ha (List.take_append_drop k (encQ a)).symm (by simp; omega)) (by simp; omega) w1)
  have TA := Lib.hid (fun k => show (⟨(encQ a).toArray⟩ : ByteArray).extract 0 k = ⟨((encQ a).take k).toArray⟩ from by rw [mk_extract, List.drop_zero, Nat.sub_zero])
  have SA := mk_size (encQ a)
  generalize (encQ a).length = la at *
  generalize (⟨(encQ a).toArray⟩ : ByteArray) = ea at *
  have hma : m % la < la := Nat.mod_lt _ NA
  have LR := encR_len hr
  have NR : 0 < (encR r).length := List.length_pos_iff.2 (by unfold encR; simp)
  have CR := Lib.hid (fun k (hk : k < (encR r).length) w1 => wreadR_no (l := (encR r).take k) (readR_cut hr (List.take_append_drop k (encR r)).symm (by simp; omega)) (by simp; omega) w1)
  have TR := Lib.hid (fun k => show (⟨(encR r).toArray⟩ : ByteArray).extract 0 k = ⟨((encR r).take k).toArray⟩ from by rw [mk_extract, List.drop_zero, Nat.sub_zero])
  have SR := mk_size (encR r)
  generalize (encR r).length = lr at *
  generalize (⟨(encR r).toArray⟩ : ByteArray) = er at *
  have hmr : m % lr < lr := Nat.mod_lt _ NR
  have hsa := mk_size a.text
  generalize hsd : (⟨a.text.toArray⟩ : ByteArray) = sa at *
  have HSD := Lib.hid hsd
  clear hsd
  have hsb : sa.size ≤ 140737488351232 := by omega
  have t1 : decide ((5000 : Int) < (sa.size : Nat)) = false := by simp; omega
  have FC := Lib.hid (fun w1 => few_c r.err r.at_ A r.toks.length cap w1)
  rw [show decide ((r.toks.length : Int) ≤ 300) = true from by simp; omega] at FC
  have HX := Lib.hid hx
  clear hsa h5 hta hx hf
  have A0 := Lib.hid (Blk.alloc (Blk.made w 26 #[.int .i64 a.kind, .int .i64 a.tenant, .int .i64 a.q0, .int .i64 a.q1, .int .i64 a.q2, .int .i64 a.q3, .int .i64 a.q4, .string sa]) (.cells #[.int .i64 r.err, .int .i64 r.at_, .slice A r.toks.length cap] 36))
  have B0 := Lib.hid (show Blk ((w.alloc (.cells #[.int .i64 a.kind, .int .i64 a.tenant, .int .i64 a.q0, .int .i64 a.q1, .int .i64 a.q2, .int .i64 a.q3, .int .i64 a.q4, .string sa] 26)).alloc (.cells #[.int .i64 r.err, .int .i64 r.at_, .slice A r.toks.length cap] 36)) (w.heap.size + 1) 36 #[.int .i64 r.err, .int .i64 r.at_, .slice A r.toks.length cap] from by
    have := Blk.made (w.alloc (.cells #[.int .i64 a.kind, .int .i64 a.tenant, .int .i64 a.q0, .int .i64 a.q1, .int .i64 a.q2, .int .i64 a.q3, .int .i64 a.q4, .string sa] 26)) 36 #[.int .i64 r.err, .int .i64 r.at_, .slice A r.toks.length cap]
    rw [World.size_alloc] at this
    exact this)
  have W0 := Lib.hid (below_alloc (below_alloc (Below.refl w.heap.size w) (.cells #[.int .i64 a.kind, .int .i64 a.tenant, .int .i64 a.q0, .int .i64 a.q1, .int .i64 a.q2, .int .i64 a.q3, .int .i64 a.q4, .string sa] 26)) (.cells #[.int .i64 r.err, .int .i64 r.at_, .slice A r.toks.length cap] 36))
  go_enter Try.func5, Try.ntmps5
  go_wp2_with fail
  refine (AC.out _).mono ?_; rintro e w1 ⟨rfl, k1⟩
  have A1 := Lib.hid (A0.out.below k1)
  have B1 := Lib.hid (B0.out.below k1)
  have W1 := Lib.hid (below_step W0.out k1)
  have x0 : w1.cell? ⟨w.heap.size, 0, none⟩ = some (.int .i64 a.kind) := A1.out.cell 0
  have x1 : w1.cell? ⟨w.heap.size, 1, none⟩ = some (.int .i64 a.tenant) := A1.out.cell 1
  have x2 : w1.cell? ⟨w.heap.size, 2, none⟩ = some (.int .i64 a.q0) := A1.out.cell 2
  have x3 : w1.cell? ⟨w.heap.size, 3, none⟩ = some (.int .i64 a.q1) := A1.out.cell 3
  have x4 : w1.cell? ⟨w.heap.size, 4, none⟩ = some (.int .i64 a.q2) := A1.out.cell 4
  have x5 : w1.cell? ⟨w.heap.size, 5, none⟩ = some (.int .i64 a.q3) := A1.out.cell 5
  have x6 : w1.cell? ⟨w.heap.size, 6, none⟩ = some (.int .i64 a.q4) := A1.out.cell 6
  have x7 : w1.cell? ⟨w.heap.size, 7, none⟩ = some (.string sa) := A1.out.cell 7
  have y0 : w1.cell? ⟨w.heap.size + 1, 0, none⟩ = some (.int .i64 r.err) := B1.out.cell 0
  have y1 : w1.cell? ⟨w.heap.size + 1, 1, none⟩ = some (.int .i64 r.at_) := B1.out.cell 1
  have y2 : w1.cell? ⟨w.heap.size + 1, 2, none⟩ = some (.slice A r.toks.length cap) := B1.out.cell 2
  clear k1 A0 B0 W0
  have X1 := Lib.hid ((HX.out.below W1.out))
  go_wp2_with fail
  refine (FC.out _).mono ?_; rintro e w2 ⟨rfl, k2⟩
  have A2 := Lib.hid (A1.out.below k2)
  have B2 := Lib.hid (B1.out.below k2)
  have W2 := Lib.hid (below_step W1.out k2)
  clear k2 A1 B1
  clear x0 x1 x2 x3 x4 x5 x6 x7 y0 y1 y2
  have x0 : w2.cell? ⟨w.heap.size, 0, none⟩ = some (.int .i64 a.kind) := A2.out.cell 0
  have x1 : w2.cell? ⟨w.heap.size, 1, none⟩ = some (.int .i64 a.tenant) := A2.out.cell 1
  have x2 : w2.cell? ⟨w.heap.size, 2, none⟩ = some (.int .i64 a.q0) := A2.out.cell 2
  have x3 : w2.cell? ⟨w.heap.size, 3, none⟩ = some (.int .i64 a.q1) := A2.out.cell 3
  have x4 : w2.cell? ⟨w.heap.size, 4, none⟩ = some (.int .i64 a.q2) := A2.out.cell 4
  have x5 : w2.cell? ⟨w.heap.size, 5, none⟩ = some (.int .i64 a.q3) := A2.out.cell 5
  have x6 : w2.cell? ⟨w.heap.size, 6, none⟩ = some (.int .i64 a.q4) := A2.out.cell 6
  have x7 : w2.cell? ⟨w.heap.size, 7, none⟩ = some (.string sa) := A2.out.cell 7
  go_wp2_with fail
  refine (PA.out _).mono ?_; rintro e w3 ⟨rfl, k3⟩
  have A3 := Lib.hid (A2.out.below k3)
  have B3 := Lib.hid (B2.out.below k3)
  have W3 := Lib.hid (below_step W2.out k3)
  clear k3 A2 B2 x0 x1 x2 x3 x4 x5 x6 x7
  have CX := Lib.hid (fun w1 => CA.out (m % la) hma w1)
  rw [← TA.out] at CX
  unfold zeroA at CX
  go_wp2_with fail
  refine (CX.out _).mono ?_; rintro e w5 ⟨rfl, k5⟩
  have B5 := Lib.hid ((B3.out.below k5).alloc (.cells #[.int .i64 0, .int .i64 0, .int .i64 0, .int .i64 0, .int .i64 0, .int .i64 0, .int .i64 0, .string { data := #[] }] 26))
  have W5 := Lib.hid (below_alloc (below_step W3.out k5) (.cells #[.int .i64 0, .int .i64 0, .int .i64 0, .int .i64 0, .int .i64 0, .int .i64 0, .int .i64 0, .string { data := #[] }] 26))
  clear k5 A3 B3 W3 hma
  have l5 := B5.out.lt
  have y0 : (w5.alloc (.cells #[.int .i64 0, .int .i64 0, .int .i64 0, .int .i64 0, .int .i64 0, .int .i64 0, .int .i64 0, .string { data := #[] }] 26)).cell? ⟨w.heap.size + 1, 0, none⟩ = some (.int .i64 r.err) := B5.out.cell 0
  have y1 : (w5.alloc (.cells #[.int .i64 0, .int .i64 0, .int .i64 0, .int .i64 0, .int .i64 0, .int .i64 0, .int .i64 0, .string { data := #[] }] 26)).cell? ⟨w.heap.size + 1, 1, none⟩ = some (.int .i64 r.at_) := B5.out.cell 1
  have y2 : (w5.alloc (.cells #[.int .i64 0, .int .i64 0, .int .i64 0, .int .i64 0, .int .i64 0, .int .i64 0, .int .i64 0, .string { data := #[] }] 26)).cell? ⟨w.heap.size + 1, 2, none⟩ = some (.slice A r.toks.length cap) := B5.out.cell 2
  go_wp2_with fail
  refine (PR.out _ (HX.out.below W5.out)).mono ?_; rintro e w4 ⟨rfl, k4⟩
  have W4 := Lib.hid (below_step W5.out k4)
  clear k4
  have CY := Lib.hid (fun w1 => CR.out (m % lr) hmr w1)
  rw [← TR.out] at CY
  go_wp2_with fail
  refine (CY.out _).mono ?_; rintro e w6 ⟨rfl, k6⟩
  go_wp2_with fail
  go_returns
  exact ⟨rfl, below_alloc (below_step W4.out k6) _⟩
set_option maxHeartbeats 4000000 in
set_option maxRecDepth 100000 in
theorem cuts_yn (a : Rq) (r : Rp) (A : Option Addr) (cap : Nat) (c : Int) (w : World) (hx : TokS w (.slice A r.toks.length cap) r.toks) (hwf : ∀ t ∈ r.toks, wfI t.2.2) (hta : a.text.length ≤ 140737488351232) (h5 : a.text.length ≤ 5000) (hf : r.toks.length ≤ 300) (ha : okQ a) (hr : ¬ okR r) :
    Calls Try.prog 5 #[.agg #[.int .i64 a.kind, .int .i64 a.tenant, .int .i64 a.q0, .int .i64 a.q1, .int .i64 a.q2, .int .i64 a.q3, .int .i64 a.q4, .string ⟨a.text.toArray⟩], .agg #[.int .i64 r.err, .int .i64 r.at_, .slice A r.toks.length cap], .int .i64 c] w fun e w' => e = .returned (.bool true) ∧ Below w.heap.size w w' := by
  have AC := Lib.hid (fun w1 => awake_c w1)
  have PA := Lib.hid (fun w1 => print_ok a ha w1)
  unfold rqA str at PA
  have PR := Lib.hid (fun w1 h => printR_no r hr hwf (Nat.le_trans hf (by decide)) (.slice A r.toks.length cap) w1 h)
  obtain ⟨m, hm⟩ : ∃ m : Nat, IntKind.u64.wrap c = (m : Nat) := ⟨(IntKind.u64.wrap c).toNat, by rw [IntKind.wrap_u64]; omega⟩
  have LA := encQ_len ha
  have NA : 0 < (encQ a).length := List.length_pos_iff.2 encQ_ne
  have CA := Lib.hid (fun k (hk : k < (encQ a).length) w1 => wread_no (l := (encQ a).take k) (readQ_cut ha (List.take_append_drop k (encQ a)).symm (by simp; omega)) (by simp; omega) w1)
  have TA := Lib.hid (fun k => show (⟨(encQ a).toArray⟩ : ByteArray).extract 0 k = ⟨((encQ a).take k).toArray⟩ from by rw [mk_extract, List.drop_zero, Nat.sub_zero])
  have SA := mk_size (encQ a)
  generalize (encQ a).length = la at *
  generalize (⟨(encQ a).toArray⟩ : ByteArray) = ea at *
  have hma : m % la < la := Nat.mod_lt _ NA
  have hsa := mk_size a.text
  generalize hsd : (⟨a.text.toArray⟩ : ByteArray) = sa at *
  have HSD := Lib.hid hsd
  clear hsd
  have hsb : sa.size ≤ 140737488351232 := by omega
  have t1 : decide ((5000 : Int) < (sa.size : Nat)) = false := by simp; omega
  have FC := Lib.hid (fun w1 => few_c r.err r.at_ A r.toks.length cap w1)
  rw [show decide ((r.toks.length : Int) ≤ 300) = true from by simp; omega] at FC
  have HX := Lib.hid hx
  clear hsa h5 hta hx hf
  have A0 := Lib.hid (Blk.alloc (Blk.made w 26 #[.int .i64 a.kind, .int .i64 a.tenant, .int .i64 a.q0, .int .i64 a.q1, .int .i64 a.q2, .int .i64 a.q3, .int .i64 a.q4, .string sa]) (.cells #[.int .i64 r.err, .int .i64 r.at_, .slice A r.toks.length cap] 36))
  have B0 := Lib.hid (show Blk ((w.alloc (.cells #[.int .i64 a.kind, .int .i64 a.tenant, .int .i64 a.q0, .int .i64 a.q1, .int .i64 a.q2, .int .i64 a.q3, .int .i64 a.q4, .string sa] 26)).alloc (.cells #[.int .i64 r.err, .int .i64 r.at_, .slice A r.toks.length cap] 36)) (w.heap.size + 1) 36 #[.int .i64 r.err, .int .i64 r.at_, .slice A r.toks.length cap] from by
    have := Blk.made (w.alloc (.cells #[.int .i64 a.kind, .int .i64 a.tenant, .int .i64 a.q0, .int .i64 a.q1, .int .i64 a.q2, .int .i64 a.q3, .int .i64 a.q4, .string sa] 26)) 36 #[.int .i64 r.err, .int .i64 r.at_, .slice A r.toks.length cap]
    rw [World.size_alloc] at this
    exact this)
  have W0 := Lib.hid (below_alloc (below_alloc (Below.refl w.heap.size w) (.cells #[.int .i64 a.kind, .int .i64 a.tenant, .int .i64 a.q0, .int .i64 a.q1, .int .i64 a.q2, .int .i64 a.q3, .int .i64 a.q4, .string sa] 26)) (.cells #[.int .i64 r.err, .int .i64 r.at_, .slice A r.toks.length cap] 36))
  go_enter Try.func5, Try.ntmps5
  go_wp2_with fail
  refine (AC.out _).mono ?_; rintro e w1 ⟨rfl, k1⟩
  have A1 := Lib.hid (A0.out.below k1)
  have B1 := Lib.hid (B0.out.below k1)
  have W1 := Lib.hid (below_step W0.out k1)
  have x0 : w1.cell? ⟨w.heap.size, 0, none⟩ = some (.int .i64 a.kind) := A1.out.cell 0
  have x1 : w1.cell? ⟨w.heap.size, 1, none⟩ = some (.int .i64 a.tenant) := A1.out.cell 1
  have x2 : w1.cell? ⟨w.heap.size, 2, none⟩ = some (.int .i64 a.q0) := A1.out.cell 2
  have x3 : w1.cell? ⟨w.heap.size, 3, none⟩ = some (.int .i64 a.q1) := A1.out.cell 3
  have x4 : w1.cell? ⟨w.heap.size, 4, none⟩ = some (.int .i64 a.q2) := A1.out.cell 4
  have x5 : w1.cell? ⟨w.heap.size, 5, none⟩ = some (.int .i64 a.q3) := A1.out.cell 5
  have x6 : w1.cell? ⟨w.heap.size, 6, none⟩ = some (.int .i64 a.q4) := A1.out.cell 6
  have x7 : w1.cell? ⟨w.heap.size, 7, none⟩ = some (.string sa) := A1.out.cell 7
  have y0 : w1.cell? ⟨w.heap.size + 1, 0, none⟩ = some (.int .i64 r.err) := B1.out.cell 0
  have y1 : w1.cell? ⟨w.heap.size + 1, 1, none⟩ = some (.int .i64 r.at_) := B1.out.cell 1
  have y2 : w1.cell? ⟨w.heap.size + 1, 2, none⟩ = some (.slice A r.toks.length cap) := B1.out.cell 2
  clear k1 A0 B0 W0
  have X1 := Lib.hid ((HX.out.below W1.out))
  go_wp2_with fail
  refine (FC.out _).mono ?_; rintro e w2 ⟨rfl, k2⟩
  have A2 := Lib.hid (A1.out.below k2)
  have B2 := Lib.hid (B1.out.below k2)
  have W2 := Lib.hid (below_step W1.out k2)
  clear k2 A1 B1
  clear x0 x1 x2 x3 x4 x5 x6 x7 y0 y1 y2
  have x0 : w2.cell? ⟨w.heap.size, 0, none⟩ = some (.int .i64 a.kind) := A2.out.cell 0
  have x1 : w2.cell? ⟨w.heap.size, 1, none⟩ = some (.int .i64 a.tenant) := A2.out.cell 1
  have x2 : w2.cell? ⟨w.heap.size, 2, none⟩ = some (.int .i64 a.q0) := A2.out.cell 2
  have x3 : w2.cell? ⟨w.heap.size, 3, none⟩ = some (.int .i64 a.q1) := A2.out.cell 3
  have x4 : w2.cell? ⟨w.heap.size, 4, none⟩ = some (.int .i64 a.q2) := A2.out.cell 4
  have x5 : w2.cell? ⟨w.heap.size, 5, none⟩ = some (.int .i64 a.q3) := A2.out.cell 5
  have x6 : w2.cell? ⟨w.heap.size, 6, none⟩ = some (.int .i64 a.q4) := A2.out.cell 6
  have x7 : w2.cell? ⟨w.heap.size, 7, none⟩ = some (.string sa) := A2.out.cell 7
  go_wp2_with fail
  refine (PA.out _).mono ?_; rintro e w3 ⟨rfl, k3⟩
  have A3 := Lib.hid (A2.out.below k3)
  have B3 := Lib.hid (B2.out.below k3)
  have W3 := Lib.hid (below_step W2.out k3)
  clear k3 A2 B2 x0 x1 x2 x3 x4 x5 x6 x7
  have CX := Lib.hid (fun w1 => CA.out (m % la) hma w1)
  rw [← TA.out] at CX
  unfold zeroA at CX
  go_wp2_with fail
  refine (CX.out _).mono ?_; rintro e w5 ⟨rfl, k5⟩
  have B5 := Lib.hid ((B3.out.below k5).alloc (.cells #[.int .i64 0, .int .i64 0, .int .i64 0, .int .i64 0, .int .i64 0, .int .i64 0, .int .i64 0, .string { data := #[] }] 26))
  have W5 := Lib.hid (below_alloc (below_step W3.out k5) (.cells #[.int .i64 0, .int .i64 0, .int .i64 0, .int .i64 0, .int .i64 0, .int .i64 0, .int .i64 0, .string { data := #[] }] 26))
  clear k5 A3 B3 W3 hma
  have l5 := B5.out.lt
  have y0 : (w5.alloc (.cells #[.int .i64 0, .int .i64 0, .int .i64 0, .int .i64 0, .int .i64 0, .int .i64 0, .int .i64 0, .string { data := #[] }] 26)).cell? ⟨w.heap.size + 1, 0, none⟩ = some (.int .i64 r.err) := B5.out.cell 0
  have y1 : (w5.alloc (.cells #[.int .i64 0, .int .i64 0, .int .i64 0, .int .i64 0, .int .i64 0, .int .i64 0, .int .i64 0, .string { data := #[] }] 26)).cell? ⟨w.heap.size + 1, 1, none⟩ = some (.int .i64 r.at_) := B5.out.cell 1
  have y2 : (w5.alloc (.cells #[.int .i64 0, .int .i64 0, .int .i64 0, .int .i64 0, .int .i64 0, .int .i64 0, .int .i64 0, .string { data := #[] }] 26)).cell? ⟨w.heap.size + 1, 2, none⟩ = some (.slice A r.toks.length cap) := B5.out.cell 2
  go_wp2_with fail
  refine (PR.out _ (HX.out.below W5.out)).mono ?_; rintro e w4 ⟨rfl, k4⟩
  have W4 := Lib.hid (below_step W5.out k4)
  clear k4
  go_wp2_with fail
  go_returns
  exact ⟨rfl, W4.out⟩
set_option maxHeartbeats 4000000 in
set_option maxRecDepth 100000 in
theorem cuts_ny (a : Rq) (r : Rp) (A : Option Addr) (cap : Nat) (c : Int) (w : World) (hx : TokS w (.slice A r.toks.length cap) r.toks) (_hwf : ∀ t ∈ r.toks, wfI t.2.2) (hta : a.text.length ≤ 140737488351232) (h5 : a.text.length ≤ 5000) (hf : r.toks.length ≤ 300) (ha : ¬ okQ a) (hr : okR r) :
    Calls Try.prog 5 #[.agg #[.int .i64 a.kind, .int .i64 a.tenant, .int .i64 a.q0, .int .i64 a.q1, .int .i64 a.q2, .int .i64 a.q3, .int .i64 a.q4, .string ⟨a.text.toArray⟩], .agg #[.int .i64 r.err, .int .i64 r.at_, .slice A r.toks.length cap], .int .i64 c] w fun e w' => e = .returned (.bool true) ∧ Below w.heap.size w w' := by
  have AC := Lib.hid (fun w1 => awake_c w1)
  have PA := Lib.hid (fun w1 => print_no a ha (Nat.le_trans h5 (by decide)) w1)
  unfold rqA str at PA
  have PR := Lib.hid (fun w1 h => printR_ok r hr (.slice A r.toks.length cap) w1 h)
  obtain ⟨m, hm⟩ : ∃ m : Nat, IntKind.u64.wrap c = (m : Nat) := ⟨(IntKind.u64.wrap c).toNat, by rw [IntKind.wrap_u64]; omega⟩
  have LR := encR_len hr
  have NR : 0 < (encR r).length := List.length_pos_iff.2 (by unfold encR; simp)
  have CR := Lib.hid (fun k (hk : k < (encR r).length) w1 => wreadR_no (l := (encR r).take k) (readR_cut hr (List.take_append_drop k (encR r)).symm (by simp; omega)) (by simp; omega) w1)
  have TR := Lib.hid (fun k => show (⟨(encR r).toArray⟩ : ByteArray).extract 0 k = ⟨((encR r).take k).toArray⟩ from by rw [mk_extract, List.drop_zero, Nat.sub_zero])
  have SR := mk_size (encR r)
  generalize (encR r).length = lr at *
  generalize (⟨(encR r).toArray⟩ : ByteArray) = er at *
  have hmr : m % lr < lr := Nat.mod_lt _ NR
  have hsa := mk_size a.text
  generalize hsd : (⟨a.text.toArray⟩ : ByteArray) = sa at *
  have HSD := Lib.hid hsd
  clear hsd
  have hsb : sa.size ≤ 140737488351232 := by omega
  have t1 : decide ((5000 : Int) < (sa.size : Nat)) = false := by simp; omega
  have FC := Lib.hid (fun w1 => few_c r.err r.at_ A r.toks.length cap w1)
  rw [show decide ((r.toks.length : Int) ≤ 300) = true from by simp; omega] at FC
  have HX := Lib.hid hx
  clear hsa h5 hta hx hf
  have A0 := Lib.hid (Blk.alloc (Blk.made w 26 #[.int .i64 a.kind, .int .i64 a.tenant, .int .i64 a.q0, .int .i64 a.q1, .int .i64 a.q2, .int .i64 a.q3, .int .i64 a.q4, .string sa]) (.cells #[.int .i64 r.err, .int .i64 r.at_, .slice A r.toks.length cap] 36))
  have B0 := Lib.hid (show Blk ((w.alloc (.cells #[.int .i64 a.kind, .int .i64 a.tenant, .int .i64 a.q0, .int .i64 a.q1, .int .i64 a.q2, .int .i64 a.q3, .int .i64 a.q4, .string sa] 26)).alloc (.cells #[.int .i64 r.err, .int .i64 r.at_, .slice A r.toks.length cap] 36)) (w.heap.size + 1) 36 #[.int .i64 r.err, .int .i64 r.at_, .slice A r.toks.length cap] from by
    have := Blk.made (w.alloc (.cells #[.int .i64 a.kind, .int .i64 a.tenant, .int .i64 a.q0, .int .i64 a.q1, .int .i64 a.q2, .int .i64 a.q3, .int .i64 a.q4, .string sa] 26)) 36 #[.int .i64 r.err, .int .i64 r.at_, .slice A r.toks.length cap]
    rw [World.size_alloc] at this
    exact this)
  have W0 := Lib.hid (below_alloc (below_alloc (Below.refl w.heap.size w) (.cells #[.int .i64 a.kind, .int .i64 a.tenant, .int .i64 a.q0, .int .i64 a.q1, .int .i64 a.q2, .int .i64 a.q3, .int .i64 a.q4, .string sa] 26)) (.cells #[.int .i64 r.err, .int .i64 r.at_, .slice A r.toks.length cap] 36))
  go_enter Try.func5, Try.ntmps5
  go_wp2_with fail
  refine (AC.out _).mono ?_; rintro e w1 ⟨rfl, k1⟩
  have A1 := Lib.hid (A0.out.below k1)
  have B1 := Lib.hid (B0.out.below k1)
  have W1 := Lib.hid (below_step W0.out k1)
  have x0 : w1.cell? ⟨w.heap.size, 0, none⟩ = some (.int .i64 a.kind) := A1.out.cell 0
  have x1 : w1.cell? ⟨w.heap.size, 1, none⟩ = some (.int .i64 a.tenant) := A1.out.cell 1
  have x2 : w1.cell? ⟨w.heap.size, 2, none⟩ = some (.int .i64 a.q0) := A1.out.cell 2
  have x3 : w1.cell? ⟨w.heap.size, 3, none⟩ = some (.int .i64 a.q1) := A1.out.cell 3
  have x4 : w1.cell? ⟨w.heap.size, 4, none⟩ = some (.int .i64 a.q2) := A1.out.cell 4
  have x5 : w1.cell? ⟨w.heap.size, 5, none⟩ = some (.int .i64 a.q3) := A1.out.cell 5
  have x6 : w1.cell? ⟨w.heap.size, 6, none⟩ = some (.int .i64 a.q4) := A1.out.cell 6
  have x7 : w1.cell? ⟨w.heap.size, 7, none⟩ = some (.string sa) := A1.out.cell 7
  have y0 : w1.cell? ⟨w.heap.size + 1, 0, none⟩ = some (.int .i64 r.err) := B1.out.cell 0
  have y1 : w1.cell? ⟨w.heap.size + 1, 1, none⟩ = some (.int .i64 r.at_) := B1.out.cell 1
  have y2 : w1.cell? ⟨w.heap.size + 1, 2, none⟩ = some (.slice A r.toks.length cap) := B1.out.cell 2
  clear k1 A0 B0 W0
  have X1 := Lib.hid ((HX.out.below W1.out))
  go_wp2_with fail
  refine (FC.out _).mono ?_; rintro e w2 ⟨rfl, k2⟩
  have A2 := Lib.hid (A1.out.below k2)
  have B2 := Lib.hid (B1.out.below k2)
  have W2 := Lib.hid (below_step W1.out k2)
  clear k2 A1 B1
  clear x0 x1 x2 x3 x4 x5 x6 x7 y0 y1 y2
  have x0 : w2.cell? ⟨w.heap.size, 0, none⟩ = some (.int .i64 a.kind) := A2.out.cell 0
  have x1 : w2.cell? ⟨w.heap.size, 1, none⟩ = some (.int .i64 a.tenant) := A2.out.cell 1
  have x2 : w2.cell? ⟨w.heap.size, 2, none⟩ = some (.int .i64 a.q0) := A2.out.cell 2
  have x3 : w2.cell? ⟨w.heap.size, 3, none⟩ = some (.int .i64 a.q1) := A2.out.cell 3
  have x4 : w2.cell? ⟨w.heap.size, 4, none⟩ = some (.int .i64 a.q2) := A2.out.cell 4
  have x5 : w2.cell? ⟨w.heap.size, 5, none⟩ = some (.int .i64 a.q3) := A2.out.cell 5
  have x6 : w2.cell? ⟨w.heap.size, 6, none⟩ = some (.int .i64 a.q4) := A2.out.cell 6
  have x7 : w2.cell? ⟨w.heap.size, 7, none⟩ = some (.string sa) := A2.out.cell 7
  go_wp2_with fail
  refine (PA.out _).mono ?_; rintro e w3 ⟨rfl, k3⟩
  have A3 := Lib.hid (A2.out.below k3)
  have B3 := Lib.hid (B2.out.below k3)
  have W3 := Lib.hid (below_step W2.out k3)
  clear k3 A2 B2 x0 x1 x2 x3 x4 x5 x6 x7
  have y0 : w3.cell? ⟨w.heap.size + 1, 0, none⟩ = some (.int .i64 r.err) := B3.out.cell 0
  have y1 : w3.cell? ⟨w.heap.size + 1, 1, none⟩ = some (.int .i64 r.at_) := B3.out.cell 1
  have y2 : w3.cell? ⟨w.heap.size + 1, 2, none⟩ = some (.slice A r.toks.length cap) := B3.out.cell 2
  go_wp2_with fail
  refine (PR.out _ (HX.out.below W3.out)).mono ?_; rintro e w4 ⟨rfl, k4⟩
  have W4 := Lib.hid (below_step W3.out k4)
  clear k4
  have CY := Lib.hid (fun w1 => CR.out (m % lr) hmr w1)
  rw [← TR.out] at CY
  go_wp2_with fail
  refine (CY.out _).mono ?_; rintro e w6 ⟨rfl, k6⟩
  go_wp2_with fail
  go_returns
  exact ⟨rfl, below_alloc (below_step W4.out k6) _⟩
set_option maxHeartbeats 4000000 in
set_option maxRecDepth 100000 in
theorem cuts_all (a : Rq) (r : Rp) (A : Option Addr) (cap : Nat) (c : Int) (w : World) (hx : TokS w (.slice A r.toks.length cap) r.toks) (hwf : ∀ t ∈ r.toks, wfI t.2.2) (hta : a.text.length ≤ 140737488351232)  :
    Calls Try.prog 5 #[.agg #[.int .i64 a.kind, .int .i64 a.tenant, .int .i64 a.q0, .int .i64 a.q1, .int .i64 a.q2, .int .i64 a.q3, .int .i64 a.q4, .string ⟨a.text.toArray⟩], .agg #[.int .i64 r.err, .int .i64 r.at_, .slice A r.toks.length cap], .int .i64 c] w fun e w' => e = .returned (.bool true) ∧ Below w.heap.size w w' := by
  by_cases h5 : 5000 < a.text.length
  · exact cuts_text a r A cap c w hx hwf hta h5
  · have h5' : a.text.length ≤ 5000 := by omega
    by_cases hf : 300 < r.toks.length
    · exact cuts_many a r A cap c w hx hwf hta h5' hf
    · have hf' : r.toks.length ≤ 300 := by omega
      by_cases oa : okQ a
      · by_cases ob : okR r
        · exact cuts_yy a r A cap c w hx hwf hta h5' hf' oa ob
        · exact cuts_yn a r A cap c w hx hwf hta h5' hf' oa ob
      · by_cases ob : okR r
        · exact cuts_ny a r A cap c w hx hwf hta h5' hf' oa ob
        · exact cuts_nn a r A cap c w hx hwf hta h5' hf' oa ob
theorem cuts_c (a : Rq) (r : Rp) (x : Value) (c : Int) (w : World) (hx : TokS w x r.toks) (hwf : ∀ t ∈ r.toks, wfI t.2.2) (hta : a.text.length ≤ 140737488351232) :
    Calls Try.prog 5 #[.agg #[.int .i64 a.kind, .int .i64 a.tenant, .int .i64 a.q0, .int .i64 a.q1, .int .i64 a.q2, .int .i64 a.q3, .int .i64 a.q4, .string ⟨a.text.toArray⟩], .agg #[.int .i64 r.err, .int .i64 r.at_, x], .int .i64 c] w fun e w' => e = .returned (.bool true) ∧ Below w.heap.size w w' := by
  obtain ⟨A, cap, rfl, h⟩ := hx
  exact cuts_all a r A cap c w ⟨A, cap, rfl, h⟩ hwf hta
end Go.Proofs.Ytgcjfjmnccajeaa
