/- The law of joins: its walk where it plays. -/
import Derived.Test.YtgcjfjmnccajeaaWire21
namespace Go.Proofs.Ytgcjfjmnccajeaa
open Go.RowKit
set_option maxHeartbeats 4000000 in
set_option maxRecDepth 100000 in
theorem joins_noa (a b : Rq) (h9 : a.text.length + b.text.length ≤ 9000) (ha : ¬ okQ a) (hb : ¬ okQ b) (w : World) : Calls Try.prog 6 #[.agg #[.int .i64 a.kind, .int .i64 a.tenant, .int .i64 a.q0, .int .i64 a.q1, .int .i64 a.q2, .int .i64 a.q3, .int .i64 a.q4, .string ⟨a.text.toArray⟩], .agg #[.int .i64 b.kind, .int .i64 b.tenant, .int .i64 b.q0, .int .i64 b.q1, .int .i64 b.q2, .int .i64 b.q3, .int .i64 b.q4, .string ⟨b.text.toArray⟩]] w fun e w' => e = .returned (.bool true) ∧ Below w.heap.size w w' := by
  have AC := Lib.hid (fun w1 => awake_c w1)
  have hsa := mk_size a.text
  have hsb := mk_size b.text
  have hA : (⟨a.text.toArray⟩ : ByteArray).size ≤ 9000 := by omega
  have hB : (⟨b.text.toArray⟩ : ByteArray).size ≤ 9000 := by omega
  have t1 : decide ((9000 : Int) < ((⟨a.text.toArray⟩ : ByteArray).size : Nat) + ((⟨b.text.toArray⟩ : ByteArray).size : Nat)) = false := by simp; omega
  have hla : a.text.length ≤ 9000 := by omega
  have hlb : b.text.length ≤ 9000 := by omega
  clear hsa hsb h9
  have A0 := Lib.hid (Blk.alloc (Blk.made w 26 #[.int .i64 a.kind, .int .i64 a.tenant, .int .i64 a.q0, .int .i64 a.q1, .int .i64 a.q2, .int .i64 a.q3, .int .i64 a.q4, .string ⟨a.text.toArray⟩]) (.cells #[.int .i64 b.kind, .int .i64 b.tenant, .int .i64 b.q0, .int .i64 b.q1, .int .i64 b.q2, .int .i64 b.q3, .int .i64 b.q4, .string ⟨b.text.toArray⟩] 26))
  have B0 := Lib.hid (show Blk ((w.alloc (.cells #[.int .i64 a.kind, .int .i64 a.tenant, .int .i64 a.q0, .int .i64 a.q1, .int .i64 a.q2, .int .i64 a.q3, .int .i64 a.q4, .string ⟨a.text.toArray⟩] 26)).alloc (.cells #[.int .i64 b.kind, .int .i64 b.tenant, .int .i64 b.q0, .int .i64 b.q1, .int .i64 b.q2, .int .i64 b.q3, .int .i64 b.q4, .string ⟨b.text.toArray⟩] 26)) (w.heap.size + 1) 26 #[.int .i64 b.kind, .int .i64 b.tenant, .int .i64 b.q0, .int .i64 b.q1, .int .i64 b.q2, .int .i64 b.q3, .int .i64 b.q4, .string ⟨b.text.toArray⟩] from by
    have := Blk.made (w.alloc (.cells #[.int .i64 a.kind, .int .i64 a.tenant, .int .i64 a.q0, .int .i64 a.q1, .int .i64 a.q2, .int .i64 a.q3, .int .i64 a.q4, .string ⟨a.text.toArray⟩] 26)) 26 #[.int .i64 b.kind, .int .i64 b.tenant, .int .i64 b.q0, .int .i64 b.q1, .int .i64 b.q2, .int .i64 b.q3, .int .i64 b.q4, .string ⟨b.text.toArray⟩]
    rw [World.size_alloc] at this
    exact this)
  have W0 := Lib.hid (below_alloc (below_alloc (Below.refl w.heap.size w) (.cells #[.int .i64 a.kind, .int .i64 a.tenant, .int .i64 a.q0, .int .i64 a.q1, .int .i64 a.q2, .int .i64 a.q3, .int .i64 a.q4, .string ⟨a.text.toArray⟩] 26)) (.cells #[.int .i64 b.kind, .int .i64 b.tenant, .int .i64 b.q0, .int .i64 b.q1, .int .i64 b.q2, .int .i64 b.q3, .int .i64 b.q4, .string ⟨b.text.toArray⟩] 26))
  have PA := Lib.hid (fun w1 => print_no a ha (Nat.le_trans hla (by decide)) w1)
  have PB := Lib.hid (fun w1 => print_no b hb (Nat.le_trans hlb (by decide)) w1)
  unfold rqA str at PA PB
  generalize (⟨a.text.toArray⟩ : ByteArray) = sa at *
  generalize (⟨b.text.toArray⟩ : ByteArray) = sb at *
  go_enter Try.func6, Try.ntmps6
  go_wp2_with fail
  refine (AC.out _).mono ?_; rintro e w1 ⟨rfl, k1⟩
  have A1 := Lib.hid (A0.out.below k1)
  have B1 := Lib.hid (B0.out.below k1)
  have W1 := Lib.hid (below_step W0.out k1)
  have x0 : w1.cell? ⟨w.heap.size, 0, none⟩ = some (.int .i64 a.kind) := A1.out.cell 0
  have x1 : w1.cell? ⟨w.heap.size, 1, none⟩ = some (.int .i64 a.tenant) := A1.out.cell 1
  have x2 : w1.cell? ⟨w.heap.size, 2, none⟩ = some (.int .i64 a.q0) := A1.out.cell 2
  have x3 : w1.cell? ⟨w.heap.size, 3, none⟩ = some (.int .i64 a.q1) := A1.out.cell 3
  have x4 : w1.cell? ⟨w.heap.size, 4, none⟩ = some (.int .i64 a.q2) := A1.out.cell 4
  have x5 : w1.cell? ⟨w.heap.size, 5, none⟩ = some (.int .i64 a.q3) := A1.out.cell 5
  have x6 : w1.cell? ⟨w.heap.size, 6, none⟩ = some (.int .i64 a.q4) := A1.out.cell 6
  have x7 : w1.cell? ⟨w.heap.size, 7, none⟩ = some (.string sa) := A1.out.cell 7
  have y0 : w1.cell? ⟨w.heap.size + 1, 0, none⟩ = some (.int .i64 b.kind) := B1.out.cell 0
  have y1 : w1.cell? ⟨w.heap.size + 1, 1, none⟩ = some (.int .i64 b.tenant) := B1.out.cell 1
  have y2 : w1.cell? ⟨w.heap.size + 1, 2, none⟩ = some (.int .i64 b.q0) := B1.out.cell 2
  have y3 : w1.cell? ⟨w.heap.size + 1, 3, none⟩ = some (.int .i64 b.q1) := B1.out.cell 3
  have y4 : w1.cell? ⟨w.heap.size + 1, 4, none⟩ = some (.int .i64 b.q2) := B1.out.cell 4
  have y5 : w1.cell? ⟨w.heap.size + 1, 5, none⟩ = some (.int .i64 b.q3) := B1.out.cell 5
  have y6 : w1.cell? ⟨w.heap.size + 1, 6, none⟩ = some (.int .i64 b.q4) := B1.out.cell 6
  have y7 : w1.cell? ⟨w.heap.size + 1, 7, none⟩ = some (.string sb) := B1.out.cell 7
  clear k1 A0 B0 W0
  go_wp2_with fail
  refine (PA.out _).mono ?_; rintro e w2 ⟨rfl, k2⟩
  have A2 := Lib.hid (A1.out.below k2)
  have B2 := Lib.hid (B1.out.below k2)
  have W2 := Lib.hid (below_step W1.out k2)
  clear k2 A1 B1 W1 x0 x1 x2 x3 x4 x5 x6 x7 y0 y1 y2 y3 y4 y5 y6 y7
  have y0 : w2.cell? ⟨w.heap.size + 1, 0, none⟩ = some (.int .i64 b.kind) := B2.out.cell 0
  have y1 : w2.cell? ⟨w.heap.size + 1, 1, none⟩ = some (.int .i64 b.tenant) := B2.out.cell 1
  have y2 : w2.cell? ⟨w.heap.size + 1, 2, none⟩ = some (.int .i64 b.q0) := B2.out.cell 2
  have y3 : w2.cell? ⟨w.heap.size + 1, 3, none⟩ = some (.int .i64 b.q1) := B2.out.cell 3
  have y4 : w2.cell? ⟨w.heap.size + 1, 4, none⟩ = some (.int .i64 b.q2) := B2.out.cell 4
  have y5 : w2.cell? ⟨w.heap.size + 1, 5, none⟩ = some (.int .i64 b.q3) := B2.out.cell 5
  have y6 : w2.cell? ⟨w.heap.size + 1, 6, none⟩ = some (.int .i64 b.q4) := B2.out.cell 6
  have y7 : w2.cell? ⟨w.heap.size + 1, 7, none⟩ = some (.string sb) := B2.out.cell 7
  go_wp2_with fail
  refine (PB.out _).mono ?_; rintro e w3 ⟨rfl, k3⟩
  have A3 := Lib.hid (A2.out.below k3)
  have B3 := Lib.hid (B2.out.below k3)
  have W3 := Lib.hid (below_step W2.out k3)
  clear k3 A2 B2 W2 y0 y1 y2 y3 y4 y5 y6 y7
  go_wp2_with fail
  go_returns
  exact ⟨rfl, W3.out⟩
set_option maxHeartbeats 4000000 in
set_option maxRecDepth 100000 in
theorem joins_nob (a b : Rq) (h9 : a.text.length + b.text.length ≤ 9000) (ha : okQ a) (hb : ¬ okQ b) (w : World) : Calls Try.prog 6 #[.agg #[.int .i64 a.kind, .int .i64 a.tenant, .int .i64 a.q0, .int .i64 a.q1, .int .i64 a.q2, .int .i64 a.q3, .int .i64 a.q4, .string ⟨a.text.toArray⟩], .agg #[.int .i64 b.kind, .int .i64 b.tenant, .int .i64 b.q0, .int .i64 b.q1, .int .i64 b.q2, .int .i64 b.q3, .int .i64 b.q4, .string ⟨b.text.toArray⟩]] w fun e w' => e = .returned (.bool true) ∧ Below w.heap.size w w' := by
  have AC := Lib.hid (fun w1 => awake_c w1)
  have hsa := mk_size a.text
  have hsb := mk_size b.text
  have hA : (⟨a.text.toArray⟩ : ByteArray).size ≤ 9000 := by omega
  have hB : (⟨b.text.toArray⟩ : ByteArray).size ≤ 9000 := by omega
  have t1 : decide ((9000 : Int) < ((⟨a.text.toArray⟩ : ByteArray).size : Nat) + ((⟨b.text.toArray⟩ : ByteArray).size : Nat)) = false := by simp; omega
  have hla : a.text.length ≤ 9000 := by omega
  have hlb : b.text.length ≤ 9000 := by omega
  clear hsa hsb h9
  have A0 := Lib.hid (Blk.alloc (Blk.made w 26 #[.int .i64 a.kind, .int .i64 a.tenant, .int .i64 a.q0, .int .i64 a.q1, .int .i64 a.q2, .int .i64 a.q3, .int .i64 a.q4, .string ⟨a.text.toArray⟩]) (.cells #[.int .i64 b.kind, .int .i64 b.tenant, .int .i64 b.q0, .int .i64 b.q1, .int .i64 b.q2, .int .i64 b.q3, .int .i64 b.q4, .string ⟨b.text.toArray⟩] 26))
  have B0 := Lib.hid (show Blk ((w.alloc (.cells #[.int .i64 a.kind, .int .i64 a.tenant, .int .i64 a.q0, .int .i64 a.q1, .int .i64 a.q2, .int .i64 a.q3, .int .i64 a.q4, .string ⟨a.text.toArray⟩] 26)).alloc (.cells #[.int .i64 b.kind, .int .i64 b.tenant, .int .i64 b.q0, .int .i64 b.q1, .int .i64 b.q2, .int .i64 b.q3, .int .i64 b.q4, .string ⟨b.text.toArray⟩] 26)) (w.heap.size + 1) 26 #[.int .i64 b.kind, .int .i64 b.tenant, .int .i64 b.q0, .int .i64 b.q1, .int .i64 b.q2, .int .i64 b.q3, .int .i64 b.q4, .string ⟨b.text.toArray⟩] from by
    have := Blk.made (w.alloc (.cells #[.int .i64 a.kind, .int .i64 a.tenant, .int .i64 a.q0, .int .i64 a.q1, .int .i64 a.q2, .int .i64 a.q3, .int .i64 a.q4, .string ⟨a.text.toArray⟩] 26)) 26 #[.int .i64 b.kind, .int .i64 b.tenant, .int .i64 b.q0, .int .i64 b.q1, .int .i64 b.q2, .int .i64 b.q3, .int .i64 b.q4, .string ⟨b.text.toArray⟩]
    rw [World.size_alloc] at this
    exact this)
  have W0 := Lib.hid (below_alloc (below_alloc (Below.refl w.heap.size w) (.cells #[.int .i64 a.kind, .int .i64 a.tenant, .int .i64 a.q0, .int .i64 a.q1, .int .i64 a.q2, .int .i64 a.q3, .int .i64 a.q4, .string ⟨a.text.toArray⟩] 26)) (.cells #[.int .i64 b.kind, .int .i64 b.tenant, .int .i64 b.q0, .int .i64 b.q1, .int .i64 b.q2, .int .i64 b.q3, .int .i64 b.q4, .string ⟨b.text.toArray⟩] 26))
  have PA := Lib.hid (fun w1 => print_ok a ha w1)
  have PB := Lib.hid (fun w1 => print_no b hb (Nat.le_trans hlb (by decide)) w1)
  unfold rqA str at PA PB
  generalize (⟨a.text.toArray⟩ : ByteArray) = sa at *
  generalize (⟨b.text.toArray⟩ : ByteArray) = sb at *
  go_enter Try.func6, Try.ntmps6
  go_wp2_with fail
  refine (AC.out _).mono ?_; rintro e w1 ⟨rfl, k1⟩
  have A1 := Lib.hid (A0.out.below k1)
  have B1 := Lib.hid (B0.out.below k1)
  have W1 := Lib.hid (below_step W0.out k1)
  have x0 : w1.cell? ⟨w.heap.size, 0, none⟩ = some (.int .i64 a.kind) := A1.out.cell 0
  have x1 : w1.cell? ⟨w.heap.size, 1, none⟩ = some (.int .i64 a.tenant) := A1.out.cell 1
  have x2 : w1.cell? ⟨w.heap.size, 2, none⟩ = some (.int .i64 a.q0) := A1.out.cell 2
  have x3 : w1.cell? ⟨w.heap.size, 3, none⟩ = some (.int .i64 a.q1) := A1.out.cell 3
  have x4 : w1.cell? ⟨w.heap.size, 4, none⟩ = some (.int .i64 a.q2) := A1.out.cell 4
  have x5 : w1.cell? ⟨w.heap.size, 5, none⟩ = some (.int .i64 a.q3) := A1.out.cell 5
  have x6 : w1.cell? ⟨w.heap.size, 6, none⟩ = some (.int .i64 a.q4) := A1.out.cell 6
  have x7 : w1.cell? ⟨w.heap.size, 7, none⟩ = some (.string sa) := A1.out.cell 7
  have y0 : w1.cell? ⟨w.heap.size + 1, 0, none⟩ = some (.int .i64 b.kind) := B1.out.cell 0
  have y1 : w1.cell? ⟨w.heap.size + 1, 1, none⟩ = some (.int .i64 b.tenant) := B1.out.cell 1
  have y2 : w1.cell? ⟨w.heap.size + 1, 2, none⟩ = some (.int .i64 b.q0) := B1.out.cell 2
  have y3 : w1.cell? ⟨w.heap.size + 1, 3, none⟩ = some (.int .i64 b.q1) := B1.out.cell 3
  have y4 : w1.cell? ⟨w.heap.size + 1, 4, none⟩ = some (.int .i64 b.q2) := B1.out.cell 4
  have y5 : w1.cell? ⟨w.heap.size + 1, 5, none⟩ = some (.int .i64 b.q3) := B1.out.cell 5
  have y6 : w1.cell? ⟨w.heap.size + 1, 6, none⟩ = some (.int .i64 b.q4) := B1.out.cell 6
  have y7 : w1.cell? ⟨w.heap.size + 1, 7, none⟩ = some (.string sb) := B1.out.cell 7
  clear k1 A0 B0 W0
  go_wp2_with fail
  refine (PA.out _).mono ?_; rintro e w2 ⟨rfl, k2⟩
  have A2 := Lib.hid (A1.out.below k2)
  have B2 := Lib.hid (B1.out.below k2)
  have W2 := Lib.hid (below_step W1.out k2)
  clear k2 A1 B1 W1 x0 x1 x2 x3 x4 x5 x6 x7 y0 y1 y2 y3 y4 y5 y6 y7
  have y0 : w2.cell? ⟨w.heap.size + 1, 0, none⟩ = some (.int .i64 b.kind) := B2.out.cell 0
  have y1 : w2.cell? ⟨w.heap.size + 1, 1, none⟩ = some (.int .i64 b.tenant) := B2.out.cell 1
  have y2 : w2.cell? ⟨w.heap.size + 1, 2, none⟩ = some (.int .i64 b.q0) := B2.out.cell 2
  have y3 : w2.cell? ⟨w.heap.size + 1, 3, none⟩ = some (.int .i64 b.q1) := B2.out.cell 3
  have y4 : w2.cell? ⟨w.heap.size + 1, 4, none⟩ = some (.int .i64 b.q2) := B2.out.cell 4
  have y5 : w2.cell? ⟨w.heap.size + 1, 5, none⟩ = some (.int .i64 b.q3) := B2.out.cell 5
  have y6 : w2.cell? ⟨w.heap.size + 1, 6, none⟩ = some (.int .i64 b.q4) := B2.out.cell 6
  have y7 : w2.cell? ⟨w.heap.size + 1, 7, none⟩ = some (.string sb) := B2.out.cell 7
  go_wp2_with fail
  refine (PB.out _).mono ?_; rintro e w3 ⟨rfl, k3⟩
  have A3 := Lib.hid (A2.out.below k3)
  have B3 := Lib.hid (B2.out.below k3)
  have W3 := Lib.hid (below_step W2.out k3)
  clear k3 A2 B2 W2 y0 y1 y2 y3 y4 y5 y6 y7
  go_wp2_with fail
  go_returns
  exact ⟨rfl, W3.out⟩
set_option maxHeartbeats 4000000 in
set_option maxRecDepth 100000 in
theorem joins_noc (a b : Rq) (h9 : a.text.length + b.text.length ≤ 9000) (ha : ¬ okQ a) (hb : okQ b) (w : World) : Calls Try.prog 6 #[.agg #[.int .i64 a.kind, .int .i64 a.tenant, .int .i64 a.q0, .int .i64 a.q1, .int .i64 a.q2, .int .i64 a.q3, .int .i64 a.q4, .string ⟨a.text.toArray⟩], .agg #[.int .i64 b.kind, .int .i64 b.tenant, .int .i64 b.q0, .int .i64 b.q1, .int .i64 b.q2, .int .i64 b.q3, .int .i64 b.q4, .string ⟨b.text.toArray⟩]] w fun e w' => e = .returned (.bool true) ∧ Below w.heap.size w w' := by
  have AC := Lib.hid (fun w1 => awake_c w1)
  have hsa := mk_size a.text
  have hsb := mk_size b.text
  have hA : (⟨a.text.toArray⟩ : ByteArray).size ≤ 9000 := by omega
  have hB : (⟨b.text.toArray⟩ : ByteArray).size ≤ 9000 := by omega
  have t1 : decide ((9000 : Int) < ((⟨a.text.toArray⟩ : ByteArray).size : Nat) + ((⟨b.text.toArray⟩ : ByteArray).size : Nat)) = false := by simp; omega
  have hla : a.text.length ≤ 9000 := by omega
  have hlb : b.text.length ≤ 9000 := by omega
  clear hsa hsb h9
  have A0 := Lib.hid (Blk.alloc (Blk.made w 26 #[.int .i64 a.kind, .int .i64 a.tenant, .int .i64 a.q0, .int .i64 a.q1, .int .i64 a.q2, .int .i64 a.q3, .int .i64 a.q4, .string ⟨a.text.toArray⟩]) (.cells #[.int .i64 b.kind, .int .i64 b.tenant, .int .i64 b.q0, .int .i64 b.q1, .int .i64 b.q2, .int .i64 b.q3, .int .i64 b.q4, .string ⟨b.text.toArray⟩] 26))
  have B0 := Lib.hid (show Blk ((w.alloc (.cells #[.int .i64 a.kind, .int .i64 a.tenant, .int .i64 a.q0, .int .i64 a.q1, .int .i64 a.q2, .int .i64 a.q3, .int .i64 a.q4, .string ⟨a.text.toArray⟩] 26)).alloc (.cells #[.int .i64 b.kind, .int .i64 b.tenant, .int .i64 b.q0, .int .i64 b.q1, .int .i64 b.q2, .int .i64 b.q3, .int .i64 b.q4, .string ⟨b.text.toArray⟩] 26)) (w.heap.size + 1) 26 #[.int .i64 b.kind, .int .i64 b.tenant, .int .i64 b.q0, .int .i64 b.q1, .int .i64 b.q2, .int .i64 b.q3, .int .i64 b.q4, .string ⟨b.text.toArray⟩] from by
    have := Blk.made (w.alloc (.cells #[.int .i64 a.kind, .int .i64 a.tenant, .int .i64 a.q0, .int .i64 a.q1, .int .i64 a.q2, .int .i64 a.q3, .int .i64 a.q4, .string ⟨a.text.toArray⟩] 26)) 26 #[.int .i64 b.kind, .int .i64 b.tenant, .int .i64 b.q0, .int .i64 b.q1, .int .i64 b.q2, .int .i64 b.q3, .int .i64 b.q4, .string ⟨b.text.toArray⟩]
    rw [World.size_alloc] at this
    exact this)
  have W0 := Lib.hid (below_alloc (below_alloc (Below.refl w.heap.size w) (.cells #[.int .i64 a.kind, .int .i64 a.tenant, .int .i64 a.q0, .int .i64 a.q1, .int .i64 a.q2, .int .i64 a.q3, .int .i64 a.q4, .string ⟨a.text.toArray⟩] 26)) (.cells #[.int .i64 b.kind, .int .i64 b.tenant, .int .i64 b.q0, .int .i64 b.q1, .int .i64 b.q2, .int .i64 b.q3, .int .i64 b.q4, .string ⟨b.text.toArray⟩] 26))
  have PA := Lib.hid (fun w1 => print_no a ha (Nat.le_trans hla (by decide)) w1)
  have PB := Lib.hid (fun w1 => print_ok b hb w1)
  unfold rqA str at PA PB
  generalize (⟨a.text.toArray⟩ : ByteArray) = sa at *
  generalize (⟨b.text.toArray⟩ : ByteArray) = sb at *
  go_enter Try.func6, Try.ntmps6
  go_wp2_with fail
  refine (AC.out _).mono ?_; rintro e w1 ⟨rfl, k1⟩
  have A1 := Lib.hid (A0.out.below k1)
  have B1 := Lib.hid (B0.out.below k1)
  have W1 := Lib.hid (below_step W0.out k1)
  have x0 : w1.cell? ⟨w.heap.size, 0, none⟩ = some (.int .i64 a.kind) := A1.out.cell 0
  have x1 : w1.cell? ⟨w.heap.size, 1, none⟩ = some (.int .i64 a.tenant) := A1.out.cell 1
  have x2 : w1.cell? ⟨w.heap.size, 2, none⟩ = some (.int .i64 a.q0) := A1.out.cell 2
  have x3 : w1.cell? ⟨w.heap.size, 3, none⟩ = some (.int .i64 a.q1) := A1.out.cell 3
  have x4 : w1.cell? ⟨w.heap.size, 4, none⟩ = some (.int .i64 a.q2) := A1.out.cell 4
  have x5 : w1.cell? ⟨w.heap.size, 5, none⟩ = some (.int .i64 a.q3) := A1.out.cell 5
  have x6 : w1.cell? ⟨w.heap.size, 6, none⟩ = some (.int .i64 a.q4) := A1.out.cell 6
  have x7 : w1.cell? ⟨w.heap.size, 7, none⟩ = some (.string sa) := A1.out.cell 7
  have y0 : w1.cell? ⟨w.heap.size + 1, 0, none⟩ = some (.int .i64 b.kind) := B1.out.cell 0
  have y1 : w1.cell? ⟨w.heap.size + 1, 1, none⟩ = some (.int .i64 b.tenant) := B1.out.cell 1
  have y2 : w1.cell? ⟨w.heap.size + 1, 2, none⟩ = some (.int .i64 b.q0) := B1.out.cell 2
  have y3 : w1.cell? ⟨w.heap.size + 1, 3, none⟩ = some (.int .i64 b.q1) := B1.out.cell 3
  have y4 : w1.cell? ⟨w.heap.size + 1, 4, none⟩ = some (.int .i64 b.q2) := B1.out.cell 4
  have y5 : w1.cell? ⟨w.heap.size + 1, 5, none⟩ = some (.int .i64 b.q3) := B1.out.cell 5
  have y6 : w1.cell? ⟨w.heap.size + 1, 6, none⟩ = some (.int .i64 b.q4) := B1.out.cell 6
  have y7 : w1.cell? ⟨w.heap.size + 1, 7, none⟩ = some (.string sb) := B1.out.cell 7
  clear k1 A0 B0 W0
  go_wp2_with fail
  refine (PA.out _).mono ?_; rintro e w2 ⟨rfl, k2⟩
  have A2 := Lib.hid (A1.out.below k2)
  have B2 := Lib.hid (B1.out.below k2)
  have W2 := Lib.hid (below_step W1.out k2)
  clear k2 A1 B1 W1 x0 x1 x2 x3 x4 x5 x6 x7 y0 y1 y2 y3 y4 y5 y6 y7
  have y0 : w2.cell? ⟨w.heap.size + 1, 0, none⟩ = some (.int .i64 b.kind) := B2.out.cell 0
  have y1 : w2.cell? ⟨w.heap.size + 1, 1, none⟩ = some (.int .i64 b.tenant) := B2.out.cell 1
  have y2 : w2.cell? ⟨w.heap.size + 1, 2, none⟩ = some (.int .i64 b.q0) := B2.out.cell 2
  have y3 : w2.cell? ⟨w.heap.size + 1, 3, none⟩ = some (.int .i64 b.q1) := B2.out.cell 3
  have y4 : w2.cell? ⟨w.heap.size + 1, 4, none⟩ = some (.int .i64 b.q2) := B2.out.cell 4
  have y5 : w2.cell? ⟨w.heap.size + 1, 5, none⟩ = some (.int .i64 b.q3) := B2.out.cell 5
  have y6 : w2.cell? ⟨w.heap.size + 1, 6, none⟩ = some (.int .i64 b.q4) := B2.out.cell 6
  have y7 : w2.cell? ⟨w.heap.size + 1, 7, none⟩ = some (.string sb) := B2.out.cell 7
  go_wp2_with fail
  refine (PB.out _).mono ?_; rintro e w3 ⟨rfl, k3⟩
  have A3 := Lib.hid (A2.out.below k3)
  have B3 := Lib.hid (B2.out.below k3)
  have W3 := Lib.hid (below_step W2.out k3)
  clear k3 A2 B2 W2 y0 y1 y2 y3 y4 y5 y6 y7
  go_wp2_with fail
  go_returns
  exact ⟨rfl, W3.out⟩
set_option maxHeartbeats 4000000 in
set_option maxRecDepth 100000 in
theorem joins_ok (a b : Rq) (h9 : a.text.length + b.text.length ≤ 9000) (ha : okQ a) (hb : okQ b) (w : World) : Calls Try.prog 6 #[.agg #[.int .i64 a.kind, .int .i64 a.tenant, .int .i64 a.q0, .int .i64 a.q1, .int .i64 a.q2, .int .i64 a.q3, .int .i64 a.q4, .string ⟨a.text.toArray⟩], .agg #[.int .i64 b.kind, .int .i64 b.tenant, .int .i64 b.q0, .int .i64 b.q1, .int .i64 b.q2, .int .i64 b.q3, .int .i64 b.q4, .string ⟨b.text.toArray⟩]] w fun e w' => e = .returned (.bool true) ∧ Below w.heap.size w w' := by
  have AC := Lib.hid (fun w1 => awake_c w1)
  have hsa := mk_size a.text
  have hsb := mk_size b.text
  have hA : (⟨a.text.toArray⟩ : ByteArray).size ≤ 9000 := by omega
  have hB : (⟨b.text.toArray⟩ : ByteArray).size ≤ 9000 := by omega
  have t1 : decide ((9000 : Int) < ((⟨a.text.toArray⟩ : ByteArray).size : Nat) + ((⟨b.text.toArray⟩ : ByteArray).size : Nat)) = false := by simp; omega
  have hla : a.text.length ≤ 9000 := by omega
  have hlb : b.text.length ≤ 9000 := by omega
  clear hsa hsb h9
  have A0 := Lib.hid (Blk.alloc (Blk.made w 26 #[.int .i64 a.kind, .int .i64 a.tenant, .int .i64 a.q0, .int .i64 a.q1, .int .i64 a.q2, .int .i64 a.q3, .int .i64 a.q4, .string ⟨a.text.toArray⟩]) (.cells #[.int .i64 b.kind, .int .i64 b.tenant, .int .i64 b.q0, .int .i64 b.q1, .int .i64 b.q2, .int .i64 b.q3, .int .i64 b.q4, .string ⟨b.text.toArray⟩] 26))
  have B0 := Lib.hid (show Blk ((w.alloc (.cells #[.int .i64 a.kind, .int .i64 a.tenant, .int .i64 a.q0, .int .i64 a.q1, .int .i64 a.q2, .int .i64 a.q3, .int .i64 a.q4, .string ⟨a.text.toArray⟩] 26)).alloc (.cells #[.int .i64 b.kind, .int .i64 b.tenant, .int .i64 b.q0, .int .i64 b.q1, .int .i64 b.q2, .int .i64 b.q3, .int .i64 b.q4, .string ⟨b.text.toArray⟩] 26)) (w.heap.size + 1) 26 #[.int .i64 b.kind, .int .i64 b.tenant, .int .i64 b.q0, .int .i64 b.q1, .int .i64 b.q2, .int .i64 b.q3, .int .i64 b.q4, .string ⟨b.text.toArray⟩] from by
    have := Blk.made (w.alloc (.cells #[.int .i64 a.kind, .int .i64 a.tenant, .int .i64 a.q0, .int .i64 a.q1, .int .i64 a.q2, .int .i64 a.q3, .int .i64 a.q4, .string ⟨a.text.toArray⟩] 26)) 26 #[.int .i64 b.kind, .int .i64 b.tenant, .int .i64 b.q0, .int .i64 b.q1, .int .i64 b.q2, .int .i64 b.q3, .int .i64 b.q4, .string ⟨b.text.toArray⟩]
    rw [World.size_alloc] at this
    exact this)
  have W0 := Lib.hid (below_alloc (below_alloc (Below.refl w.heap.size w) (.cells #[.int .i64 a.kind, .int .i64 a.tenant, .int .i64 a.q0, .int .i64 a.q1, .int .i64 a.q2, .int .i64 a.q3, .int .i64 a.q4, .string ⟨a.text.toArray⟩] 26)) (.cells #[.int .i64 b.kind, .int .i64 b.tenant, .int .i64 b.q0, .int .i64 b.q1, .int .i64 b.q2, .int .i64 b.q3, .int .i64 b.q4, .string ⟨b.text.toArray⟩] 26))
  have PA := Lib.hid (fun w1 => print_ok a ha w1)
  have PB := Lib.hid (fun w1 => print_ok b hb w1)
  have LA := encQ_len ha
  have LB := encQ_len hb
  have RX := Lib.hid (fun w1 => wread_ok (readQ_enc a ha (encQ b)) (by simp; omega) w1)
  have RY := Lib.hid (fun w1 => wread_ok (l := encQ b) (rest := []) (r := b) (by have := readQ_enc b hb []; rwa [List.append_nil] at this) (by omega) w1)
  rw [← mk_app] at RX
  have EQ1 := rq_same a
  have EQ2 := rq_same b
  have EQ3 := rq_cmp a b
  have FIN := Lib.hid (fun k (hk : k = min (encQ a).length (encQ b).length) => encQ_take ha hb k hk)
  have LA2 := mk_size (encQ a)
  have LB2 := mk_size (encQ b)
  have TA := Lib.hid (fun k => mk_extract (encQ a) 0 k)
  have TB := Lib.hid (fun k => mk_extract (encQ b) 0 k)
  unfold rqA str at PA PB RX RY
  generalize (⟨a.text.toArray⟩ : ByteArray) = sa at *
  generalize (⟨b.text.toArray⟩ : ByteArray) = sb at *
  generalize (⟨(encQ a).toArray⟩ : ByteArray) = ea at *
  generalize (⟨(encQ b).toArray⟩ : ByteArray) = eb at *
  go_enter Try.func6, Try.ntmps6
  go_wp2_with fail
  refine (AC.out _).mono ?_; rintro e w1 ⟨rfl, k1⟩
  have A1 := Lib.hid (A0.out.below k1)
  have B1 := Lib.hid (B0.out.below k1)
  have W1 := Lib.hid (below_step W0.out k1)
  have x0 : w1.cell? ⟨w.heap.size, 0, none⟩ = some (.int .i64 a.kind) := A1.out.cell 0
  have x1 : w1.cell? ⟨w.heap.size, 1, none⟩ = some (.int .i64 a.tenant) := A1.out.cell 1
  have x2 : w1.cell? ⟨w.heap.size, 2, none⟩ = some (.int .i64 a.q0) := A1.out.cell 2
  have x3 : w1.cell? ⟨w.heap.size, 3, none⟩ = some (.int .i64 a.q1) := A1.out.cell 3
  have x4 : w1.cell? ⟨w.heap.size, 4, none⟩ = some (.int .i64 a.q2) := A1.out.cell 4
  have x5 : w1.cell? ⟨w.heap.size, 5, none⟩ = some (.int .i64 a.q3) := A1.out.cell 5
  have x6 : w1.cell? ⟨w.heap.size, 6, none⟩ = some (.int .i64 a.q4) := A1.out.cell 6
  have x7 : w1.cell? ⟨w.heap.size, 7, none⟩ = some (.string sa) := A1.out.cell 7
  have y0 : w1.cell? ⟨w.heap.size + 1, 0, none⟩ = some (.int .i64 b.kind) := B1.out.cell 0
  have y1 : w1.cell? ⟨w.heap.size + 1, 1, none⟩ = some (.int .i64 b.tenant) := B1.out.cell 1
  have y2 : w1.cell? ⟨w.heap.size + 1, 2, none⟩ = some (.int .i64 b.q0) := B1.out.cell 2
  have y3 : w1.cell? ⟨w.heap.size + 1, 3, none⟩ = some (.int .i64 b.q1) := B1.out.cell 3
  have y4 : w1.cell? ⟨w.heap.size + 1, 4, none⟩ = some (.int .i64 b.q2) := B1.out.cell 4
  have y5 : w1.cell? ⟨w.heap.size + 1, 5, none⟩ = some (.int .i64 b.q3) := B1.out.cell 5
  have y6 : w1.cell? ⟨w.heap.size + 1, 6, none⟩ = some (.int .i64 b.q4) := B1.out.cell 6
  have y7 : w1.cell? ⟨w.heap.size + 1, 7, none⟩ = some (.string sb) := B1.out.cell 7
  clear k1 A0 B0 W0
  go_wp2_with fail
  refine (PA.out _).mono ?_; rintro e w2 ⟨rfl, k2⟩
  have A2 := Lib.hid (A1.out.below k2)
  have B2 := Lib.hid (B1.out.below k2)
  have W2 := Lib.hid (below_step W1.out k2)
  clear k2 A1 B1 W1 x0 x1 x2 x3 x4 x5 x6 x7 y0 y1 y2 y3 y4 y5 y6 y7
  have y0 : w2.cell? ⟨w.heap.size + 1, 0, none⟩ = some (.int .i64 b.kind) := B2.out.cell 0
  have y1 : w2.cell? ⟨w.heap.size + 1, 1, none⟩ = some (.int .i64 b.tenant) := B2.out.cell 1
  have y2 : w2.cell? ⟨w.heap.size + 1, 2, none⟩ = some (.int .i64 b.q0) := B2.out.cell 2
  have y3 : w2.cell? ⟨w.heap.size + 1, 3, none⟩ = some (.int .i64 b.q1) := B2.out.cell 3
  have y4 : w2.cell? ⟨w.heap.size + 1, 4, none⟩ = some (.int .i64 b.q2) := B2.out.cell 4
  have y5 : w2.cell? ⟨w.heap.size + 1, 5, none⟩ = some (.int .i64 b.q3) := B2.out.cell 5
  have y6 : w2.cell? ⟨w.heap.size + 1, 6, none⟩ = some (.int .i64 b.q4) := B2.out.cell 6
  have y7 : w2.cell? ⟨w.heap.size + 1, 7, none⟩ = some (.string sb) := B2.out.cell 7
  go_wp2_with fail
  refine (PB.out _).mono ?_; rintro e w3 ⟨rfl, k3⟩
  have A3 := Lib.hid (A2.out.below k3)
  have B3 := Lib.hid (B2.out.below k3)
  have W3 := Lib.hid (below_step W2.out k3)
  clear k3 A2 B2 W2 y0 y1 y2 y3 y4 y5 y6 y7
  go_wp2_with fail
  refine (RX.out _).mono ?_; rintro e w4 ⟨rfl, k4⟩
  have A4 := Lib.hid ((A3.out.below k4).alloc (.cells #[.int .i64 a.kind, .int .i64 a.tenant, .int .i64 a.q0, .int .i64 a.q1, .int .i64 a.q2, .int .i64 a.q3, .int .i64 a.q4, .string sa] 26))
  have B4 := Lib.hid ((B3.out.below k4).alloc (.cells #[.int .i64 a.kind, .int .i64 a.tenant, .int .i64 a.q0, .int .i64 a.q1, .int .i64 a.q2, .int .i64 a.q3, .int .i64 a.q4, .string sa] 26))
  have X4 := Lib.hid (Blk.made w4 26 #[.int .i64 a.kind, .int .i64 a.tenant, .int .i64 a.q0, .int .i64 a.q1, .int .i64 a.q2, .int .i64 a.q3, .int .i64 a.q4, .string sa])
  have W4 := Lib.hid (below_alloc (below_step W3.out k4) (.cells #[.int .i64 a.kind, .int .i64 a.tenant, .int .i64 a.q0, .int .i64 a.q1, .int .i64 a.q2, .int .i64 a.q3, .int .i64 a.q4, .string sa] 26))
  clear k4 A3 B3 W3
  go_wp2_with fail
  refine (RY.out _).mono ?_; rintro e w5 ⟨rfl, k5⟩
  have A5 := Lib.hid (A4.out.below k5)
  have B5 := Lib.hid (B4.out.below k5)
  have X5 := Lib.hid (X4.out.below k5)
  have W5 := Lib.hid (below_step W4.out k5)
  clear k5 A4 B4 W4 X4
  have la5 := A5.out.lt
  have lb5 := B5.out.lt
  have lx5 := X5.out.lt
  have x0 : w5.cell? ⟨w.heap.size, 0, none⟩ = some (.int .i64 a.kind) := A5.out.cell 0
  have x1 : w5.cell? ⟨w.heap.size, 1, none⟩ = some (.int .i64 a.tenant) := A5.out.cell 1
  have x2 : w5.cell? ⟨w.heap.size, 2, none⟩ = some (.int .i64 a.q0) := A5.out.cell 2
  have x3 : w5.cell? ⟨w.heap.size, 3, none⟩ = some (.int .i64 a.q1) := A5.out.cell 3
  have x4 : w5.cell? ⟨w.heap.size, 4, none⟩ = some (.int .i64 a.q2) := A5.out.cell 4
  have x5 : w5.cell? ⟨w.heap.size, 5, none⟩ = some (.int .i64 a.q3) := A5.out.cell 5
  have x6 : w5.cell? ⟨w.heap.size, 6, none⟩ = some (.int .i64 a.q4) := A5.out.cell 6
  have x7 : w5.cell? ⟨w.heap.size, 7, none⟩ = some (.string sa) := A5.out.cell 7
  have y0 : w5.cell? ⟨w.heap.size + 1, 0, none⟩ = some (.int .i64 b.kind) := B5.out.cell 0
  have y1 : w5.cell? ⟨w.heap.size + 1, 1, none⟩ = some (.int .i64 b.tenant) := B5.out.cell 1
  have y2 : w5.cell? ⟨w.heap.size + 1, 2, none⟩ = some (.int .i64 b.q0) := B5.out.cell 2
  have y3 : w5.cell? ⟨w.heap.size + 1, 3, none⟩ = some (.int .i64 b.q1) := B5.out.cell 3
  have y4 : w5.cell? ⟨w.heap.size + 1, 4, none⟩ = some (.int .i64 b.q2) := B5.out.cell 4
  have y5 : w5.cell? ⟨w.heap.size + 1, 5, none⟩ = some (.int .i64 b.q3) := B5.out.cell 5
  have y6 : w5.cell? ⟨w.heap.size + 1, 6, none⟩ = some (.int .i64 b.q4) := B5.out.cell 6
  have y7 : w5.cell? ⟨w.heap.size + 1, 7, none⟩ = some (.string sb) := B5.out.cell 7
  have z0 : w5.cell? ⟨w4.heap.size, 0, none⟩ = some (.int .i64 a.kind) := X5.out.cell 0
  have z1 : w5.cell? ⟨w4.heap.size, 1, none⟩ = some (.int .i64 a.tenant) := X5.out.cell 1
  have z2 : w5.cell? ⟨w4.heap.size, 2, none⟩ = some (.int .i64 a.q0) := X5.out.cell 2
  have z3 : w5.cell? ⟨w4.heap.size, 3, none⟩ = some (.int .i64 a.q1) := X5.out.cell 3
  have z4 : w5.cell? ⟨w4.heap.size, 4, none⟩ = some (.int .i64 a.q2) := X5.out.cell 4
  have z5 : w5.cell? ⟨w4.heap.size, 5, none⟩ = some (.int .i64 a.q3) := X5.out.cell 5
  have z6 : w5.cell? ⟨w4.heap.size, 6, none⟩ = some (.int .i64 a.q4) := X5.out.cell 6
  have z7 : w5.cell? ⟨w4.heap.size, 7, none⟩ = some (.string sa) := X5.out.cell 7
  go_wp2_with fail
  go_quiet (fail)
  go_wp2_with fail
  go_returns
  refine ⟨ret_bool ?_, below_draws (below_alloc W5.out _) _⟩
  have hk : (min ((encQ a).length : Int) (encQ b).length).toNat = min (encQ a).length (encQ b).length := by omega
  show (((ea.extract 0 (min ((encQ a).length : Int) (encQ b).length).toNat).toList == (eb.extract 0 (min ((encQ a).length : Int) (encQ b).length).toNat).toList) == eqB a b) = true
  rw [hk, TA.out, TB.out, str_list, str_list, List.drop_zero, List.drop_zero, Nat.sub_zero, beq_iff_eq, Bool.eq_iff_iff, beq_iff_eq, eqB_iff]
  exact FIN.out _ rfl
theorem joins_c (a b : Rq) (ha : a.text.length ≤ 281474976710656) (hb : b.text.length ≤ 281474976710656) (w : World) : Calls Try.prog 6 #[.agg #[.int .i64 a.kind, .int .i64 a.tenant, .int .i64 a.q0, .int .i64 a.q1, .int .i64 a.q2, .int .i64 a.q3, .int .i64 a.q4, .string ⟨a.text.toArray⟩], .agg #[.int .i64 b.kind, .int .i64 b.tenant, .int .i64 b.q0, .int .i64 b.q1, .int .i64 b.q2, .int .i64 b.q3, .int .i64 b.q4, .string ⟨b.text.toArray⟩]] w fun e w' => e = .returned (.bool true) ∧ Below w.heap.size w w' := by
  by_cases h9 : 9000 < a.text.length + b.text.length
  · exact joins_big a b ha hb h9 w
  · have h9' : a.text.length + b.text.length ≤ 9000 := by omega
    by_cases oa : okQ a
    · by_cases ob : okQ b
      · exact joins_ok a b h9' oa ob w
      · exact joins_nob a b h9' oa ob w
    · by_cases ob : okQ b
      · exact joins_noc a b h9' oa ob w
      · exact joins_noa a b h9' oa ob w
end Go.Proofs.Ytgcjfjmnccajeaa
