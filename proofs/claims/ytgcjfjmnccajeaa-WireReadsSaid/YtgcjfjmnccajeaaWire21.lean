/- The law of joins: its walk. -/
import Derived.Test.YtgcjfjmnccajeaaWire20
import Derived.Deep.QuietTactic
import Derived.BigQuiet
namespace Go.Proofs.Ytgcjfjmnccajeaa
open Go.RowKit
def eqB (a b : Rq) : Bool := a.kind == b.kind && (a.tenant == b.tenant && ((a.q0 == b.q0 && (a.q1 == b.q1 && (a.q2 == b.q2 && (a.q3 == b.q3 && a.q4 == b.q4)))) && (⟨a.text.toArray⟩ : ByteArray) == ⟨b.text.toArray⟩))
theorem bytes_beq (a b : List UInt8) : ((⟨a.toArray⟩ : ByteArray) == ⟨b.toArray⟩) = decide (a = b) := by
  have h : ((⟨a.toArray⟩ : ByteArray) == ⟨b.toArray⟩) = (a.toArray == b.toArray) := rfl
  rw [h, Bool.eq_iff_iff]
  simp
theorem eqB_iff (a b : Rq) : eqB a b = true ↔ a = b := by
  unfold eqB
  rw [bytes_beq]
  simp only [Bool.and_eq_true, beq_iff_eq, decide_eq_true_eq]
  constructor
  · rintro ⟨h0, h1, ⟨h2, h3, h4, h5, h6⟩, h7⟩; exact Rq.eq h0 h1 h2 h3 h4 h5 h6 h7
  · rintro rfl; exact ⟨rfl, rfl, ⟨rfl, rfl, rfl, rfl, rfl⟩, rfl⟩
theorem rq_cmp (a b : Rq) (w : World) : (binOp .eql 26 (.agg #[.int .i64 a.kind, .int .i64 a.tenant, .int .i64 a.q0, .int .i64 a.q1, .int .i64 a.q2, .int .i64 a.q3, .int .i64 a.q4, .string ⟨a.text.toArray⟩]) (.agg #[.int .i64 b.kind, .int .i64 b.tenant, .int .i64 b.q0, .int .i64 b.q1, .int .i64 b.q2, .int .i64 b.q3, .int .i64 b.q4, .string ⟨b.text.toArray⟩])).run Try.prog w = .ok (.bool (eqB a b)) w := req_cmp ..
theorem rq_same (a : Rq) (w : World) : (binOp .eql 26 (.agg #[.int .i64 a.kind, .int .i64 a.tenant, .int .i64 a.q0, .int .i64 a.q1, .int .i64 a.q2, .int .i64 a.q3, .int .i64 a.q4, .string ⟨a.text.toArray⟩]) (.agg #[.int .i64 a.kind, .int .i64 a.tenant, .int .i64 a.q0, .int .i64 a.q1, .int .i64 a.q2, .int .i64 a.q3, .int .i64 a.q4, .string ⟨a.text.toArray⟩])).run Try.prog w = .ok (.bool true) w := by rw [rq_cmp, (eqB_iff a a).2 rfl]
theorem encQ_len {r : Rq} (h : okQ r) : (encQ r).length ≤ 4100 := by
  have h5 := h.2.2.2.2.1
  unfold encQ
  split
  · have e := fun n => encN_len n
    simp [encNs]
    have := e r.q0.toNat; have := e r.q1.toNat; have := e r.q2.toNat; have := e r.q3.toNat; have := e r.q4.toNat
    omega
  · split
    · have := encN_len r.text.length
      simp; omega
    · simp
theorem encQ_ne {r : Rq} : encQ r ≠ [] := by unfold encQ; simp
set_option maxHeartbeats 4000000 in
set_option maxRecDepth 100000 in
theorem joins_big (a b : Rq) (ha : a.text.length ≤ 281474976710656) (hb : b.text.length ≤ 281474976710656) (h9 : 9000 < a.text.length + b.text.length) (w : World) : Calls Try.prog 6 #[.agg #[.int .i64 a.kind, .int .i64 a.tenant, .int .i64 a.q0, .int .i64 a.q1, .int .i64 a.q2, .int .i64 a.q3, .int .i64 a.q4, .string ⟨a.text.toArray⟩], .agg #[.int .i64 b.kind, .int .i64 b.tenant, .int .i64 b.q0, .int .i64 b.q1, .int .i64 b.q2, .int .i64 b.q3, .int .i64 b.q4, .string ⟨b.text.toArray⟩]] w fun e w' => e = .returned (.bool true) ∧ Below w.heap.size w w' := by
  have AC := Lib.hid (fun w1 => awake_c w1)
  have hsa := mk_size a.text
  have hsb := mk_size b.text
  generalize hda : (⟨a.text.toArray⟩ : ByteArray) = sa at *
  generalize hdb : (⟨b.text.toArray⟩ : ByteArray) = sb at *
  clear hda hdb
  have hA : sa.size ≤ 281474976710656 := by omega
  have hB : sb.size ≤ 281474976710656 := by omega
  have t1 : decide ((9000 : Int) < (sa.size : Nat) + (sb.size : Nat)) = true := by simp; omega
  clear hsa hsb h9 ha hb
  generalize a.kind = ak; generalize a.tenant = at_; generalize a.q0 = a0; generalize a.q1 = a1; generalize a.q2 = a2; generalize a.q3 = a3; generalize a.q4 = a4
  generalize b.kind = bk; generalize b.tenant = bt; generalize b.q0 = b0; generalize b.q1 = b1; generalize b.q2 = b2; generalize b.q3 = b3; generalize b.q4 = b4
  have A0 := Lib.hid (Blk.alloc (Blk.made w 26 #[.int .i64 ak, .int .i64 at_, .int .i64 a0, .int .i64 a1, .int .i64 a2, .int .i64 a3, .int .i64 a4, .string sa]) (.cells #[.int .i64 bk, .int .i64 bt, .int .i64 b0, .int .i64 b1, .int .i64 b2, .int .i64 b3, .int .i64 b4, .string sb] 26))
  have B0 := Lib.hid (show Blk ((w.alloc (.cells #[.int .i64 ak, .int .i64 at_, .int .i64 a0, .int .i64 a1, .int .i64 a2, .int .i64 a3, .int .i64 a4, .string sa] 26)).alloc (.cells #[.int .i64 bk, .int .i64 bt, .int .i64 b0, .int .i64 b1, .int .i64 b2, .int .i64 b3, .int .i64 b4, .string sb] 26)) (w.heap.size + 1) 26 #[.int .i64 bk, .int .i64 bt, .int .i64 b0, .int .i64 b1, .int .i64 b2, .int .i64 b3, .int .i64 b4, .string sb] from by
    have := Blk.made (w.alloc (.cells #[.int .i64 ak, .int .i64 at_, .int .i64 a0, .int .i64 a1, .int .i64 a2, .int .i64 a3, .int .i64 a4, .string sa] 26)) 26 #[.int .i64 bk, .int .i64 bt, .int .i64 b0, .int .i64 b1, .int .i64 b2, .int .i64 b3, .int .i64 b4, .string sb]
    rw [World.size_alloc] at this
    exact this)
  have W0 := Lib.hid (below_alloc (below_alloc (Below.refl w.heap.size w) (.cells #[.int .i64 ak, .int .i64 at_, .int .i64 a0, .int .i64 a1, .int .i64 a2, .int .i64 a3, .int .i64 a4, .string sa] 26)) (.cells #[.int .i64 bk, .int .i64 bt, .int .i64 b0, .int .i64 b1, .int .i64 b2, .int .i64 b3, .int .i64 b4, .string sb] 26))
  go_enter Try.func6, Try.ntmps6
  go_wp2_with fail
  refine (AC.out _).mono ?_; rintro e w1 ⟨rfl, k1⟩
  have c7 : w1.cell? ⟨w.heap.size, 7, none⟩ = some (.string sa) := (A0.out.below k1).cell 7
  have d7 : w1.cell? ⟨w.heap.size + 1, 7, none⟩ = some (.string sb) := (B0.out.below k1).cell 7
  have W1 := Lib.hid (below_step W0.out k1)
  clear k1
  go_wp2_with fail
  refine (AC.out _).mono ?_; rintro e w2 ⟨rfl, k2⟩
  go_wp2_with fail
  go_returns
  exact ⟨rfl, below_step W1.out k2⟩
end Go.Proofs.Ytgcjfjmnccajeaa
