/- The law of reads: its walk. -/
import Derived.Test.YtgcjfjmnccajeaaWire25
import Derived.Test.YtgcjfjmnccajeaaResp25
namespace Go.Proofs.Ytgcjfjmnccajeaa
open Go.RowKit
theorem refReadR_c (l : List UInt8) (hl : l.length ≤ 1000000) (w : World) : Calls Try.prog 12 #[.string ⟨l.toArray⟩] w fun e w' => RRespE l w e w' ∧ Below w.heap.size w w' := by
  cases l with
  | nil => exact rreadR_nil w
  | cons c b =>
    simp at hl
    by_cases hc : 13 < c.toNat
    · exact rreadR_big c b hc w
    · exact rreadR_c c b (by omega) hc w
theorem refRead_ok {l rest : List UInt8} {r : Rq} (h : readQ l = some (r, rest)) (hl : l.length ≤ 1000000) (w : World) : Calls Try.prog 9 #[.string ⟨l.toArray⟩] w fun e w' => e = .returned (.tuple #[.agg (rqA r), .string ⟨rest.toArray⟩, .bool true]) ∧ Below w.heap.size w w' :=
  (refRead_c l hl w).mono fun _ _ ⟨h1, h2⟩ => ⟨by rw [h1]; unfold rread; rw [h]; rfl, h2⟩
theorem refRead_no {l : List UInt8} (h : readQ l = none) (hl : l.length ≤ 1000000) (w : World) : Calls Try.prog 9 #[.string ⟨l.toArray⟩] w fun e w' => e = .returned (.tuple #[.agg zeroA, .string { data := #[] }, .bool false]) ∧ Below w.heap.size w w' :=
  (refRead_c l hl w).mono fun _ _ ⟨h1, h2⟩ => ⟨by rw [h1, rread_none h]; rfl, h2⟩
theorem refReadR_ok {l rest : List UInt8} {r : Rp} (h : readR l = some (r, rest)) (hl : l.length ≤ 1000000) (w : World) : Calls Try.prog 12 #[.string ⟨l.toArray⟩] w fun e w' =>
    (∃ v, e = .returned (.tuple #[.agg #[.int .i64 r.err, .int .i64 r.at_, v], .string ⟨rest.toArray⟩, .bool true]) ∧ w'.ownsRow w.heap.size 78 3 v r.toks.length (tokCells r.toks)) ∧ Below w.heap.size w w' := by
  refine (refReadR_c l hl w).mono fun _ _ ⟨h1, h2⟩ => ⟨?_, h2⟩
  rcases h1 with ⟨h3, _⟩ | ⟨r', rest', v, h3, h4, h5⟩
  · rw [h] at h3; cases h3
  · rw [h] at h3; cases h3; exact ⟨v, h4, h5⟩
theorem refReadR_no {l : List UInt8} (h : readR l = none) (hl : l.length ≤ 1000000) (w : World) : Calls Try.prog 12 #[.string ⟨l.toArray⟩] w fun e w' => e = .returned (.tuple #[.agg #[.int .i64 0, .int .i64 0, .slice none 0 0], .string { data := #[] }, .bool false]) ∧ Below w.heap.size w w' := by
  refine (refReadR_c l hl w).mono fun _ _ ⟨h1, h2⟩ => ⟨?_, h2⟩
  rcases h1 with ⟨_, h4⟩ | ⟨r', rest', v, h3, _, _⟩
  · exact h4
  · rw [h] at h3; cases h3
set_option maxHeartbeats 4000000 in
set_option maxRecDepth 100000 in
theorem reads_long (l : List UInt8) (hb : l.length ≤ 140737488351232) (h3 : 3000 < l.length) (w : World) : Calls Try.prog 3 #[.string ⟨l.toArray⟩] w fun e w' => e = .returned (.bool true) ∧ Below w.heap.size w w' := by
  have AC := Lib.hid (fun w1 => awake_c w1)
  have hsb := mk_size l
  generalize (⟨l.toArray⟩ : ByteArray) = sb at *
  have t1 : decide ((3000 : Int) < (sb.size : Nat)) = true := by simp; omega
  have hsc : sb.size ≤ 140737488351232 := by omega
  clear hsb hb h3
  go_enter Try.func3, Try.ntmps3
  go_wp2_with fail
  refine (AC.out _).mono ?_; rintro e w1 ⟨rfl, k1⟩
  go_wp2_with fail
  refine (AC.out _).mono ?_; rintro e w2 ⟨rfl, k2⟩
  go_wp2_with fail
  go_returns
  exact ⟨rfl, k1.trans (k2.mono k1.size)⟩
set_option maxHeartbeats 4000000 in
set_option maxRecDepth 100000 in
theorem reads_qr (l : List UInt8) (hl : l.length ≤ 3000) (a : Rq) (rest : List UInt8) (hq : readQ l = some (a, rest)) (b : Rp) (left : List UInt8) (hr : readR l = some (b, left)) (w : World) : Calls Try.prog 3 #[.string ⟨l.toArray⟩] w fun e w' => e = .returned (.bool true) ∧ Below w.heap.size w w' := by
  have AC := Lib.hid (fun w1 => awake_c w1)
  have hsb := mk_size l
  have RQ := Lib.hid (fun w1 => wread_ok hq (by omega) w1)
  have FQ := Lib.hid (fun w1 => refRead_ok hq (by omega) w1)
  have PQ := Lib.hid (fun w1 => print_ok a (readQ_take hq).1 w1)
  have CQ : (⟨(encQ a).toArray⟩ : ByteArray) ++ ⟨rest.toArray⟩ = ⟨l.toArray⟩ := by rw [mk_app, ← (readQ_take hq).2]
  have SQ := congrArg List.length (readQ_take hq).2
  rw [List.length_append] at SQ
  have SQ1 := mk_size (encQ a)
  have SQ2 := mk_size rest
  have EQ1 := rq_same a
  unfold rqA str at RQ FQ PQ
  generalize (⟨(encQ a).toArray⟩ : ByteArray) = eq at *
  generalize (⟨rest.toArray⟩ : ByteArray) = sr at *
  generalize (⟨a.text.toArray⟩ : ByteArray) = sa at *
  have l1 : eq.size ≤ 3000 := by omega
  have l2 : sr.size ≤ 3000 := by omega
  clear SQ SQ1 SQ2 hq
  have RR := Lib.hid (fun w1 => wreadR_ok hr (by omega) w1)
  have FR := Lib.hid (fun w1 => refReadR_ok hr (by omega) w1)
  have PR := Lib.hid (fun v w1 h => printR_ok b (readR_take hr).1 v w1 h)
  have CR : (⟨(encR b).toArray⟩ : ByteArray) ++ ⟨left.toArray⟩ = ⟨l.toArray⟩ := by rw [mk_app, ← (readR_take hr).2]
  have SR := congrArg List.length (readR_take hr).2
  rw [List.length_append] at SR
  have SR1 := mk_size (encR b)
  have SR2 := mk_size left
  have HT := (readR_take hr).1.2.2.2.1
  have SM := Lib.hid (fun v v' w1 h1 h2 => same25_c v v' b b w1 (by omega) h1 h2)
  rw [show eqR b b = true from by simp [eqR, eqTs]] at SM
  generalize (⟨(encR b).toArray⟩ : ByteArray) = er at *
  generalize (⟨left.toArray⟩ : ByteArray) = sl at *
  have l3 : er.size ≤ 3000 := by omega
  have l4 : sl.size ≤ 3000 := by omega
  clear SR SR1 SR2 HT hr
  generalize (⟨l.toArray⟩ : ByteArray) = sb at *
  have t1 : decide ((3000 : Int) < (sb.size : Nat)) = false := by simp; omega
  have hsc : sb.size ≤ 3000 := by omega
  clear hsb hl
  go_enter Try.func3, Try.ntmps3
  go_wp2_with fail
  refine (AC.out _).mono ?_; rintro e w1 ⟨rfl, k1⟩
  go_wp2_with fail
  refine (RQ.out _).mono ?_; rintro e w2 ⟨rfl, k2⟩
  have W2 := Lib.hid (below_step k1 k2)
  have X2 := Lib.hid (Blk.made w2 26 #[.int .i64 a.kind, .int .i64 a.tenant, .int .i64 a.q0, .int .i64 a.q1, .int .i64 a.q2, .int .i64 a.q3, .int .i64 a.q4, .string sa])
  have V2 := Lib.hid (below_alloc W2.out (.cells #[.int .i64 a.kind, .int .i64 a.tenant, .int .i64 a.q0, .int .i64 a.q1, .int .i64 a.q2, .int .i64 a.q3, .int .i64 a.q4, .string sa] 26))
  clear k1 k2 W2
  go_wp2_with fail
  refine (FQ.out _).mono ?_; rintro e w3 ⟨rfl, k3⟩
  have W3 := Lib.hid (below_step V2.out k3)
  have X3 := Lib.hid (Blk.alloc (X2.out.below k3) (.cells #[.int .i64 a.kind, .int .i64 a.tenant, .int .i64 a.q0, .int .i64 a.q1, .int .i64 a.q2, .int .i64 a.q3, .int .i64 a.q4, .string sa] 26))
  have Y3 := Lib.hid (Blk.made w3 26 #[.int .i64 a.kind, .int .i64 a.tenant, .int .i64 a.q0, .int .i64 a.q1, .int .i64 a.q2, .int .i64 a.q3, .int .i64 a.q4, .string sa])
  have V3 := Lib.hid (below_alloc W3.out (.cells #[.int .i64 a.kind, .int .i64 a.tenant, .int .i64 a.q0, .int .i64 a.q1, .int .i64 a.q2, .int .i64 a.q3, .int .i64 a.q4, .string sa] 26))
  have n3 := X3.out.lt
  clear k3 X2 V2 W3
  have x0 : (w3.alloc (.cells #[.int .i64 a.kind, .int .i64 a.tenant, .int .i64 a.q0, .int .i64 a.q1, .int .i64 a.q2, .int .i64 a.q3, .int .i64 a.q4, .string sa] 26)).cell? ⟨w2.heap.size, 0, none⟩ = some (.int .i64 a.kind) := X3.out.cell 0
  have x1 : (w3.alloc (.cells #[.int .i64 a.kind, .int .i64 a.tenant, .int .i64 a.q0, .int .i64 a.q1, .int .i64 a.q2, .int .i64 a.q3, .int .i64 a.q4, .string sa] 26)).cell? ⟨w2.heap.size, 1, none⟩ = some (.int .i64 a.tenant) := X3.out.cell 1
  have x2 : (w3.alloc (.cells #[.int .i64 a.kind, .int .i64 a.tenant, .int .i64 a.q0, .int .i64 a.q1, .int .i64 a.q2, .int .i64 a.q3, .int .i64 a.q4, .string sa] 26)).cell? ⟨w2.heap.size, 2, none⟩ = some (.int .i64 a.q0) := X3.out.cell 2
  have x3 : (w3.alloc (.cells #[.int .i64 a.kind, .int .i64 a.tenant, .int .i64 a.q0, .int .i64 a.q1, .int .i64 a.q2, .int .i64 a.q3, .int .i64 a.q4, .string sa] 26)).cell? ⟨w2.heap.size, 3, none⟩ = some (.int .i64 a.q1) := X3.out.cell 3
  have x4 : (w3.alloc (.cells #[.int .i64 a.kind, .int .i64 a.tenant, .int .i64 a.q0, .int .i64 a.q1, .int .i64 a.q2, .int .i64 a.q3, .int .i64 a.q4, .string sa] 26)).cell? ⟨w2.heap.size, 4, none⟩ = some (.int .i64 a.q2) := X3.out.cell 4
  have x5 : (w3.alloc (.cells #[.int .i64 a.kind, .int .i64 a.tenant, .int .i64 a.q0, .int .i64 a.q1, .int .i64 a.q2, .int .i64 a.q3, .int .i64 a.q4, .string sa] 26)).cell? ⟨w2.heap.size, 5, none⟩ = some (.int .i64 a.q3) := X3.out.cell 5
  have x6 : (w3.alloc (.cells #[.int .i64 a.kind, .int .i64 a.tenant, .int .i64 a.q0, .int .i64 a.q1, .int .i64 a.q2, .int .i64 a.q3, .int .i64 a.q4, .string sa] 26)).cell? ⟨w2.heap.size, 6, none⟩ = some (.int .i64 a.q4) := X3.out.cell 6
  have x7 : (w3.alloc (.cells #[.int .i64 a.kind, .int .i64 a.tenant, .int .i64 a.q0, .int .i64 a.q1, .int .i64 a.q2, .int .i64 a.q3, .int .i64 a.q4, .string sa] 26)).cell? ⟨w2.heap.size, 7, none⟩ = some (.string sa) := X3.out.cell 7
  have y0 : (w3.alloc (.cells #[.int .i64 a.kind, .int .i64 a.tenant, .int .i64 a.q0, .int .i64 a.q1, .int .i64 a.q2, .int .i64 a.q3, .int .i64 a.q4, .string sa] 26)).cell? ⟨w3.heap.size, 0, none⟩ = some (.int .i64 a.kind) := Y3.out.cell 0
  have y1 : (w3.alloc (.cells #[.int .i64 a.kind, .int .i64 a.tenant, .int .i64 a.q0, .int .i64 a.q1, .int .i64 a.q2, .int .i64 a.q3, .int .i64 a.q4, .string sa] 26)).cell? ⟨w3.heap.size, 1, none⟩ = some (.int .i64 a.tenant) := Y3.out.cell 1
  have y2 : (w3.alloc (.cells #[.int .i64 a.kind, .int .i64 a.tenant, .int .i64 a.q0, .int .i64 a.q1, .int .i64 a.q2, .int .i64 a.q3, .int .i64 a.q4, .string sa] 26)).cell? ⟨w3.heap.size, 2, none⟩ = some (.int .i64 a.q0) := Y3.out.cell 2
  have y3 : (w3.alloc (.cells #[.int .i64 a.kind, .int .i64 a.tenant, .int .i64 a.q0, .int .i64 a.q1, .int .i64 a.q2, .int .i64 a.q3, .int .i64 a.q4, .string sa] 26)).cell? ⟨w3.heap.size, 3, none⟩ = some (.int .i64 a.q1) := Y3.out.cell 3
  have y4 : (w3.alloc (.cells #[.int .i64 a.kind, .int .i64 a.tenant, .int .i64 a.q0, .int .i64 a.q1, .int .i64 a.q2, .int .i64 a.q3, .int .i64 a.q4, .string sa] 26)).cell? ⟨w3.heap.size, 4, none⟩ = some (.int .i64 a.q2) := Y3.out.cell 4
  have y5 : (w3.alloc (.cells #[.int .i64 a.kind, .int .i64 a.tenant, .int .i64 a.q0, .int .i64 a.q1, .int .i64 a.q2, .int .i64 a.q3, .int .i64 a.q4, .string sa] 26)).cell? ⟨w3.heap.size, 5, none⟩ = some (.int .i64 a.q3) := Y3.out.cell 5
  have y6 : (w3.alloc (.cells #[.int .i64 a.kind, .int .i64 a.tenant, .int .i64 a.q0, .int .i64 a.q1, .int .i64 a.q2, .int .i64 a.q3, .int .i64 a.q4, .string sa] 26)).cell? ⟨w3.heap.size, 6, none⟩ = some (.int .i64 a.q4) := Y3.out.cell 6
  have y7 : (w3.alloc (.cells #[.int .i64 a.kind, .int .i64 a.tenant, .int .i64 a.q0, .int .i64 a.q1, .int .i64 a.q2, .int .i64 a.q3, .int .i64 a.q4, .string sa] 26)).cell? ⟨w3.heap.size, 7, none⟩ = some (.string sa) := Y3.out.cell 7
  go_wp2_with fail
  refine (PQ.out _).mono ?_; rintro e w4 ⟨rfl, k4⟩
  have W4 := Lib.hid (below_step V3.out k4)
  clear k4 X3 Y3 V3 n3 x0 x1 x2 x3 x4 x5 x6 x7 y0 y1 y2 y3 y4 y5 y6 y7
  go_wp2_with fail
  refine (RR.out _).mono ?_; rintro e w5 ⟨⟨v5, rfl, ho5⟩, k5⟩
  have T5 := own_toks ho5
  obtain ⟨ao5, cap5, rfl, _⟩ := own_toks ho5
  have W5 := Lib.hid (below_alloc (below_step W4.out k5) (.cells #[.int .i64 b.err, .int .i64 b.at_, .slice ao5 b.toks.length cap5] 36))
  have T6 := Lib.hid (TokS.below T5 (below_alloc (Below.refl _ _) (.cells #[.int .i64 b.err, .int .i64 b.at_, .slice ao5 b.toks.length cap5] 36)))
  have P5 := Lib.hid (Blk.made w5 36 #[.int .i64 b.err, .int .i64 b.at_, .slice ao5 b.toks.length cap5])
  clear ho5 T5 k5 W4
  go_wp2_with fail
  refine (FR.out _).mono ?_; rintro e w6 ⟨⟨v6, rfl, ho6⟩, k6⟩
  have S6 := own_toks ho6
  obtain ⟨ao6, cap6, rfl, _⟩ := own_toks ho6
  have W6 := Lib.hid (below_alloc (below_step W5.out k6) (.cells #[.int .i64 b.err, .int .i64 b.at_, .slice ao6 b.toks.length cap6] 36))
  have T7 := Lib.hid (TokS.below (TokS.below T6.out k6) (below_alloc (Below.refl _ _) (.cells #[.int .i64 b.err, .int .i64 b.at_, .slice ao6 b.toks.length cap6] 36)))
  have S7 := Lib.hid (TokS.below S6 (below_alloc (Below.refl _ _) (.cells #[.int .i64 b.err, .int .i64 b.at_, .slice ao6 b.toks.length cap6] 36)))
  have P6 := Lib.hid (Blk.alloc (P5.out.below k6) (.cells #[.int .i64 b.err, .int .i64 b.at_, .slice ao6 b.toks.length cap6] 36))
  have Q6 := Lib.hid (Blk.made w6 36 #[.int .i64 b.err, .int .i64 b.at_, .slice ao6 b.toks.length cap6])
  have n6 := P6.out.lt
  clear ho6 S6 k6 P5 W5 T6
  have x0 : (w6.alloc (.cells #[.int .i64 b.err, .int .i64 b.at_, .slice ao6 b.toks.length cap6] 36)).cell? ⟨w5.heap.size, 0, none⟩ = some (.int .i64 b.err) := P6.out.cell 0
  have x1 : (w6.alloc (.cells #[.int .i64 b.err, .int .i64 b.at_, .slice ao6 b.toks.length cap6] 36)).cell? ⟨w5.heap.size, 1, none⟩ = some (.int .i64 b.at_) := P6.out.cell 1
  have x2 : (w6.alloc (.cells #[.int .i64 b.err, .int .i64 b.at_, .slice ao6 b.toks.length cap6] 36)).cell? ⟨w5.heap.size, 2, none⟩ = some (.slice ao5 b.toks.length cap5) := P6.out.cell 2
  have y0 : (w6.alloc (.cells #[.int .i64 b.err, .int .i64 b.at_, .slice ao6 b.toks.length cap6] 36)).cell? ⟨w6.heap.size, 0, none⟩ = some (.int .i64 b.err) := Q6.out.cell 0
  have y1 : (w6.alloc (.cells #[.int .i64 b.err, .int .i64 b.at_, .slice ao6 b.toks.length cap6] 36)).cell? ⟨w6.heap.size, 1, none⟩ = some (.int .i64 b.at_) := Q6.out.cell 1
  have y2 : (w6.alloc (.cells #[.int .i64 b.err, .int .i64 b.at_, .slice ao6 b.toks.length cap6] 36)).cell? ⟨w6.heap.size, 2, none⟩ = some (.slice ao6 b.toks.length cap6) := Q6.out.cell 2
  go_wp2_with (go_at_call 13; refine (SM.out _ _ _ T7.out S7.out).mono ?_; rintro e w7 ⟨rfl, k7⟩; have P7 := P6.out.below k7; have z0 : w7.cell? ⟨w5.heap.size, 0, none⟩ = some (.int .i64 b.err) := P7.cell 0; have z1 : w7.cell? ⟨w5.heap.size, 1, none⟩ = some (.int .i64 b.at_) := P7.cell 1; have z2 : w7.cell? ⟨w5.heap.size, 2, none⟩ = some (.slice ao5 b.toks.length cap5) := P7.cell 2)
  have W7 := Lib.hid (below_step W6.out k7)
  have T8 := Lib.hid (TokS.below T7.out k7)
  clear k7 W6 P6 Q6 x0 x1 x2 y0 y1 y2
  refine (PR.out _ _ T8.out).mono ?_; rintro e w8 ⟨rfl, k8⟩
  have W8 := Lib.hid (below_step W7.out k8)
  clear k8 W7 P7 z0 z1 z2
  go_wp2_with fail
  go_returns
  exact ⟨rfl, W8.out⟩
set_option maxHeartbeats 4000000 in
set_option maxRecDepth 100000 in
theorem reads_qn (l : List UInt8) (hl : l.length ≤ 3000) (a : Rq) (rest : List UInt8) (hq : readQ l = some (a, rest)) (hr : readR l = none) (w : World) : Calls Try.prog 3 #[.string ⟨l.toArray⟩] w fun e w' => e = .returned (.bool true) ∧ Below w.heap.size w w' := by
  have AC := Lib.hid (fun w1 => awake_c w1)
  have hsb := mk_size l
  have RQ := Lib.hid (fun w1 => wread_ok hq (by omega) w1)
  have FQ := Lib.hid (fun w1 => refRead_ok hq (by omega) w1)
  have PQ := Lib.hid (fun w1 => print_ok a (readQ_take hq).1 w1)
  have CQ : (⟨(encQ a).toArray⟩ : ByteArray) ++ ⟨rest.toArray⟩ = ⟨l.toArray⟩ := by rw [mk_app, ← (readQ_take hq).2]
  have SQ := congrArg List.length (readQ_take hq).2
  rw [List.length_append] at SQ
  have SQ1 := mk_size (encQ a)
  have SQ2 := mk_size rest
  have EQ1 := rq_same a
  unfold rqA str at RQ FQ PQ
  generalize (⟨(encQ a).toArray⟩ : ByteArray) = eq at *
  generalize (⟨rest.toArray⟩ : ByteArray) = sr at *
  generalize (⟨a.text.toArray⟩ : ByteArray) = sa at *
  have l1 : eq.size ≤ 3000 := by omega
  have l2 : sr.size ≤ 3000 := by omega
  clear SQ SQ1 SQ2 hq
  have RR := Lib.hid (fun w1 => wreadR_no hr (by omega) w1)
  have FR := Lib.hid (fun w1 => refReadR_no hr (by omega) w1)
  have okz : okR ⟨0, 0, []⟩ := ⟨by decide, by decide, ⟨by decide, by unfold most; decide⟩, by decide, fun t h => by cases h⟩
  have PR := Lib.hid (fun w1 h => printR_ok ⟨0, 0, []⟩ okz (.slice none 0 0) w1 h)
  have SM := Lib.hid (fun w1 h1 h2 => same25_c (.slice none 0 0) (.slice none 0 0) ⟨0, 0, []⟩ ⟨0, 0, []⟩ w1 (by decide) h1 h2)
  rw [show eqR ⟨0, 0, []⟩ ⟨0, 0, []⟩ = true from by simp [eqR, eqTs]] at SM
  have TZ := Lib.hid (fun w1 => show TokS w1 (.slice none 0 0) (⟨0, 0, []⟩ : Rp).toks from ⟨none, 0, rfl, fun h => by cases h⟩)
  generalize (⟨(encR ⟨0, 0, []⟩).toArray⟩ : ByteArray) = er at *
  clear okz hr
  generalize (⟨l.toArray⟩ : ByteArray) = sb at *
  have t1 : decide ((3000 : Int) < (sb.size : Nat)) = false := by simp; omega
  have hsc : sb.size ≤ 3000 := by omega
  clear hsb hl
  go_enter Try.func3, Try.ntmps3
  go_wp2_with fail
  refine (AC.out _).mono ?_; rintro e w1 ⟨rfl, k1⟩
  go_wp2_with fail
  refine (RQ.out _).mono ?_; rintro e w2 ⟨rfl, k2⟩
  have W2 := Lib.hid (below_step k1 k2)
  have X2 := Lib.hid (Blk.made w2 26 #[.int .i64 a.kind, .int .i64 a.tenant, .int .i64 a.q0, .int .i64 a.q1, .int .i64 a.q2, .int .i64 a.q3, .int .i64 a.q4, .string sa])
  have V2 := Lib.hid (below_alloc W2.out (.cells #[.int .i64 a.kind, .int .i64 a.tenant, .int .i64 a.q0, .int .i64 a.q1, .int .i64 a.q2, .int .i64 a.q3, .int .i64 a.q4, .string sa] 26))
  clear k1 k2 W2
  go_wp2_with fail
  refine (FQ.out _).mono ?_; rintro e w3 ⟨rfl, k3⟩
  have W3 := Lib.hid (below_step V2.out k3)
  have X3 := Lib.hid (Blk.alloc (X2.out.below k3) (.cells #[.int .i64 a.kind, .int .i64 a.tenant, .int .i64 a.q0, .int .i64 a.q1, .int .i64 a.q2, .int .i64 a.q3, .int .i64 a.q4, .string sa] 26))
  have Y3 := Lib.hid (Blk.made w3 26 #[.int .i64 a.kind, .int .i64 a.tenant, .int .i64 a.q0, .int .i64 a.q1, .int .i64 a.q2, .int .i64 a.q3, .int .i64 a.q4, .string sa])
  have V3 := Lib.hid (below_alloc W3.out (.cells #[.int .i64 a.kind, .int .i64 a.tenant, .int .i64 a.q0, .int .i64 a.q1, .int .i64 a.q2, .int .i64 a.q3, .int .i64 a.q4, .string sa] 26))
  have n3 := X3.out.lt
  clear k3 X2 V2 W3
  have x0 : (w3.alloc (.cells #[.int .i64 a.kind, .int .i64 a.tenant, .int .i64 a.q0, .int .i64 a.q1, .int .i64 a.q2, .int .i64 a.q3, .int .i64 a.q4, .string sa] 26)).cell? ⟨w2.heap.size, 0, none⟩ = some (.int .i64 a.kind) := X3.out.cell 0
  have x1 : (w3.alloc (.cells #[.int .i64 a.kind, .int .i64 a.tenant, .int .i64 a.q0, .int .i64 a.q1, .int .i64 a.q2, .int .i64 a.q3, .int .i64 a.q4, .string sa] 26)).cell? ⟨w2.heap.size, 1, none⟩ = some (.int .i64 a.tenant) := X3.out.cell 1
  have x2 : (w3.alloc (.cells #[.int .i64 a.kind, .int .i64 a.tenant, .int .i64 a.q0, .int .i64 a.q1, .int .i64 a.q2, .int .i64 a.q3, .int .i64 a.q4, .string sa] 26)).cell? ⟨w2.heap.size, 2, none⟩ = some (.int .i64 a.q0) := X3.out.cell 2
  have x3 : (w3.alloc (.cells #[.int .i64 a.kind, .int .i64 a.tenant, .int .i64 a.q0, .int .i64 a.q1, .int .i64 a.q2, .int .i64 a.q3, .int .i64 a.q4, .string sa] 26)).cell? ⟨w2.heap.size, 3, none⟩ = some (.int .i64 a.q1) := X3.out.cell 3
  have x4 : (w3.alloc (.cells #[.int .i64 a.kind, .int .i64 a.tenant, .int .i64 a.q0, .int .i64 a.q1, .int .i64 a.q2, .int .i64 a.q3, .int .i64 a.q4, .string sa] 26)).cell? ⟨w2.heap.size, 4, none⟩ = some (.int .i64 a.q2) := X3.out.cell 4
  have x5 : (w3.alloc (.cells #[.int .i64 a.kind, .int .i64 a.tenant, .int .i64 a.q0, .int .i64 a.q1, .int .i64 a.q2, .int .i64 a.q3, .int .i64 a.q4, .string sa] 26)).cell? ⟨w2.heap.size, 5, none⟩ = some (.int .i64 a.q3) := X3.out.cell 5
  have x6 : (w3.alloc (.cells #[.int .i64 a.kind, .int .i64 a.tenant, .int .i64 a.q0, .int .i64 a.q1, .int .i64 a.q2, .int .i64 a.q3, .int .i64 a.q4, .string sa] 26)).cell? ⟨w2.heap.size, 6, none⟩ = some (.int .i64 a.q4) := X3.out.cell 6
  have x7 : (w3.alloc (.cells #[.int .i64 a.kind, .int .i64 a.tenant, .int .i64 a.q0, .int .i64 a.q1, .int .i64 a.q2, .int .i64 a.q3, .int .i64 a.q4, .string sa] 26)).cell? ⟨w2.heap.size, 7, none⟩ = some (.string sa) := X3.out.cell 7
  have y0 : (w3.alloc (.cells #[.int .i64 a.kind, .int .i64 a.tenant, .int .i64 a.q0, .int .i64 a.q1, .int .i64 a.q2, .int .i64 a.q3, .int .i64 a.q4, .string sa] 26)).cell? ⟨w3.heap.size, 0, none⟩ = some (.int .i64 a.kind) := Y3.out.cell 0
  have y1 : (w3.alloc (.cells #[.int .i64 a.kind, .int .i64 a.tenant, .int .i64 a.q0, .int .i64 a.q1, .int .i64 a.q2, .int .i64 a.q3, .int .i64 a.q4, .string sa] 26)).cell? ⟨w3.heap.size, 1, none⟩ = some (.int .i64 a.tenant) := Y3.out.cell 1
  have y2 : (w3.alloc (.cells #[.int .i64 a.kind, .int .i64 a.tenant, .int .i64 a.q0, .int .i64 a.q1, .int .i64 a.q2, .int .i64 a.q3, .int .i64 a.q4, .string sa] 26)).cell? ⟨w3.heap.size, 2, none⟩ = some (.int .i64 a.q0) := Y3.out.cell 2
  have y3 : (w3.alloc (.cells #[.int .i64 a.kind, .int .i64 a.tenant, .int .i64 a.q0, .int .i64 a.q1, .int .i64 a.q2, .int .i64 a.q3, .int .i64 a.q4, .string sa] 26)).cell? ⟨w3.heap.size, 3, none⟩ = some (.int .i64 a.q1) := Y3.out.cell 3
  have y4 : (w3.alloc (.cells #[.int .i64 a.kind, .int .i64 a.tenant, .int .i64 a.q0, .int .i64 a.q1, .int .i64 a.q2, .int .i64 a.q3, .int .i64 a.q4, .string sa] 26)).cell? ⟨w3.heap.size, 4, none⟩ = some (.int .i64 a.q2) := Y3.out.cell 4
  have y5 : (w3.alloc (.cells #[.int .i64 a.kind, .int .i64 a.tenant, .int .i64 a.q0, .int .i64 a.q1, .int .i64 a.q2, .int .i64 a.q3, .int .i64 a.q4, .string sa] 26)).cell? ⟨w3.heap.size, 5, none⟩ = some (.int .i64 a.q3) := Y3.out.cell 5
  have y6 : (w3.alloc (.cells #[.int .i64 a.kind, .int .i64 a.tenant, .int .i64 a.q0, .int .i64 a.q1, .int .i64 a.q2, .int .i64 a.q3, .int .i64 a.q4, .string sa] 26)).cell? ⟨w3.heap.size, 6, none⟩ = some (.int .i64 a.q4) := Y3.out.cell 6
  have y7 : (w3.alloc (.cells #[.int .i64 a.kind, .int .i64 a.tenant, .int .i64 a.q0, .int .i64 a.q1, .int .i64 a.q2, .int .i64 a.q3, .int .i64 a.q4, .string sa] 26)).cell? ⟨w3.heap.size, 7, none⟩ = some (.string sa) := Y3.out.cell 7
  go_wp2_with fail
  refine (PQ.out _).mono ?_; rintro e w4 ⟨rfl, k4⟩
  have W4 := Lib.hid (below_step V3.out k4)
  clear k4 X3 Y3 V3 n3 x0 x1 x2 x3 x4 x5 x6 x7 y0 y1 y2 y3 y4 y5 y6 y7
  go_wp2_with fail
  refine (RR.out _).mono ?_; rintro e w5 ⟨rfl, k5⟩
  have W5 := Lib.hid (below_alloc (below_step W4.out k5) (.cells #[.int .i64 0, .int .i64 0, .slice none 0 0] 36))
  have P5 := Lib.hid (Blk.made w5 36 #[.int .i64 0, .int .i64 0, .slice none 0 0])
  clear k5 W4
  go_wp2_with fail
  refine (FR.out _).mono ?_; rintro e w6 ⟨rfl, k6⟩
  have W6 := Lib.hid (below_alloc (below_step W5.out k6) (.cells #[.int .i64 0, .int .i64 0, .slice none 0 0] 36))
  have P6 := Lib.hid (Blk.alloc (P5.out.below k6) (.cells #[.int .i64 0, .int .i64 0, .slice none 0 0] 36))
  have Q6 := Lib.hid (Blk.made w6 36 #[.int .i64 0, .int .i64 0, .slice none 0 0])
  have n6 := P6.out.lt
  clear k6 P5 W5
  have x0 : (w6.alloc (.cells #[.int .i64 0, .int .i64 0, .slice none 0 0] 36)).cell? ⟨w5.heap.size, 0, none⟩ = some (.int .i64 0) := P6.out.cell 0
  have x1 : (w6.alloc (.cells #[.int .i64 0, .int .i64 0, .slice none 0 0] 36)).cell? ⟨w5.heap.size, 1, none⟩ = some (.int .i64 0) := P6.out.cell 1
  have x2 : (w6.alloc (.cells #[.int .i64 0, .int .i64 0, .slice none 0 0] 36)).cell? ⟨w5.heap.size, 2, none⟩ = some (.slice none 0 0) := P6.out.cell 2
  have y0 : (w6.alloc (.cells #[.int .i64 0, .int .i64 0, .slice none 0 0] 36)).cell? ⟨w6.heap.size, 0, none⟩ = some (.int .i64 0) := Q6.out.cell 0
  have y1 : (w6.alloc (.cells #[.int .i64 0, .int .i64 0, .slice none 0 0] 36)).cell? ⟨w6.heap.size, 1, none⟩ = some (.int .i64 0) := Q6.out.cell 1
  have y2 : (w6.alloc (.cells #[.int .i64 0, .int .i64 0, .slice none 0 0] 36)).cell? ⟨w6.heap.size, 2, none⟩ = some (.slice none 0 0) := Q6.out.cell 2
  go_wp2_with (go_at_call 13; refine (SM.out _ (TZ.out _) (TZ.out _)).mono ?_; rintro e w7 ⟨rfl, k7⟩; have P7 := P6.out.below k7; have z0 : w7.cell? ⟨w5.heap.size, 0, none⟩ = some (.int .i64 0) := P7.cell 0; have z1 : w7.cell? ⟨w5.heap.size, 1, none⟩ = some (.int .i64 0) := P7.cell 1; have z2 : w7.cell? ⟨w5.heap.size, 2, none⟩ = some (.slice none 0 0) := P7.cell 2)
  have W7 := Lib.hid (below_step W6.out k7)
  clear k7 W6 P6 Q6 x0 x1 x2 y0 y1 y2
  refine (PR.out _ (TZ.out _)).mono ?_; rintro e w8 ⟨rfl, k8⟩
  have W8 := Lib.hid (below_step W7.out k8)
  clear k8 W7 P7 z0 z1 z2
  go_wp2_with fail
  go_returns
  exact ⟨rfl, W8.out⟩
set_option maxHeartbeats 4000000 in
set_option maxRecDepth 100000 in
theorem reads_nr (l : List UInt8) (hl : l.length ≤ 3000) (hq : readQ l = none) (b : Rp) (left : List UInt8) (hr : readR l = some (b, left)) (w : World) : Calls Try.prog 3 #[.string ⟨l.toArray⟩] w fun e w' => e = .returned (.bool true) ∧ Below w.heap.size w w' := by
  have AC := Lib.hid (fun w1 => awake_c w1)
  have hsb := mk_size l
  have RQ := Lib.hid (fun w1 => wread_no hq (by omega) w1)
  have FQ := Lib.hid (fun w1 => refRead_no hq (by omega) w1)
  have PQ := Lib.hid (fun w1 => print_no ⟨0, 0, 0, 0, 0, 0, 0, []⟩ (fun h => by have := h.1; simp at this) (by simp) w1)
  have EQ1 := rq_same ⟨0, 0, 0, 0, 0, 0, 0, []⟩
  unfold zeroA at RQ FQ
  unfold rqA str at PQ
  simp only at EQ1 PQ
  clear hq
  have RR := Lib.hid (fun w1 => wreadR_ok hr (by omega) w1)
  have FR := Lib.hid (fun w1 => refReadR_ok hr (by omega) w1)
  have PR := Lib.hid (fun v w1 h => printR_ok b (readR_take hr).1 v w1 h)
  have CR : (⟨(encR b).toArray⟩ : ByteArray) ++ ⟨left.toArray⟩ = ⟨l.toArray⟩ := by rw [mk_app, ← (readR_take hr).2]
  have SR := congrArg List.length (readR_take hr).2
  rw [List.length_append] at SR
  have SR1 := mk_size (encR b)
  have SR2 := mk_size left
  have HT := (readR_take hr).1.2.2.2.1
  have SM := Lib.hid (fun v v' w1 h1 h2 => same25_c v v' b b w1 (by omega) h1 h2)
  rw [show eqR b b = true from by simp [eqR, eqTs]] at SM
  generalize (⟨(encR b).toArray⟩ : ByteArray) = er at *
  generalize (⟨left.toArray⟩ : ByteArray) = sl at *
  have l3 : er.size ≤ 3000 := by omega
  have l4 : sl.size ≤ 3000 := by omega
  clear SR SR1 SR2 HT hr
  generalize (⟨l.toArray⟩ : ByteArray) = sb at *
  have t1 : decide ((3000 : Int) < (sb.size : Nat)) = false := by simp; omega
  have hsc : sb.size ≤ 3000 := by omega
  clear hsb hl
  go_enter Try.func3, Try.ntmps3
  go_wp2_with fail
  refine (AC.out _).mono ?_; rintro e w1 ⟨rfl, k1⟩
  go_wp2_with fail
  refine (RQ.out _).mono ?_; rintro e w2 ⟨rfl, k2⟩
  have W2 := Lib.hid (below_step k1 k2)
  have X2 := Lib.hid (Blk.made w2 26 #[.int .i64 0, .int .i64 0, .int .i64 0, .int .i64 0, .int .i64 0, .int .i64 0, .int .i64 0, .string { data := #[] }])
  have V2 := Lib.hid (below_alloc W2.out (.cells #[.int .i64 0, .int .i64 0, .int .i64 0, .int .i64 0, .int .i64 0, .int .i64 0, .int .i64 0, .string { data := #[] }] 26))
  clear k1 k2 W2
  go_wp2_with fail
  refine (FQ.out _).mono ?_; rintro e w3 ⟨rfl, k3⟩
  have W3 := Lib.hid (below_step V2.out k3)
  have X3 := Lib.hid (Blk.alloc (X2.out.below k3) (.cells #[.int .i64 0, .int .i64 0, .int .i64 0, .int .i64 0, .int .i64 0, .int .i64 0, .int .i64 0, .string { data := #[] }] 26))
  have Y3 := Lib.hid (Blk.made w3 26 #[.int .i64 0, .int .i64 0, .int .i64 0, .int .i64 0, .int .i64 0, .int .i64 0, .int .i64 0, .string { data := #[] }])
  have V3 := Lib.hid (below_alloc W3.out (.cells #[.int .i64 0, .int .i64 0, .int .i64 0, .int .i64 0, .int .i64 0, .int .i64 0, .int .i64 0, .string { data := #[] }] 26))
  have n3 := X3.out.lt
  clear k3 X2 V2 W3
  have x0 : (w3.alloc (.cells #[.int .i64 0, .int .i64 0, .int .i64 0, .int .i64 0, .int .i64 0, .int .i64 0, .int .i64 0, .string { data := #[] }] 26)).cell? ⟨w2.heap.size, 0, none⟩ = some (.int .i64 0) := X3.out.cell 0
  have x1 : (w3.alloc (.cells #[.int .i64 0, .int .i64 0, .int .i64 0, .int .i64 0, .int .i64 0, .int .i64 0, .int .i64 0, .string { data := #[] }] 26)).cell? ⟨w2.heap.size, 1, none⟩ = some (.int .i64 0) := X3.out.cell 1
  have x2 : (w3.alloc (.cells #[.int .i64 0, .int .i64 0, .int .i64 0, .int .i64 0, .int .i64 0, .int .i64 0, .int .i64 0, .string { data := #[] }] 26)).cell? ⟨w2.heap.size, 2, none⟩ = some (.int .i64 0) := X3.out.cell 2
  have x3 : (w3.alloc (.cells #[.int .i64 0, .int .i64 0, .int .i64 0, .int .i64 0, .int .i64 0, .int .i64 0, .int .i64 0, .string { data := #[] }] 26)).cell? ⟨w2.heap.size, 3, none⟩ = some (.int .i64 0) := X3.out.cell 3
  have x4 : (w3.alloc (.cells #[.int .i64 0, .int .i64 0, .int .i64 0, .int .i64 0, .int .i64 0, .int .i64 0, .int .i64 0, .string { data := #[] }] 26)).cell? ⟨w2.heap.size, 4, none⟩ = some (.int .i64 0) := X3.out.cell 4
  have x5 : (w3.alloc (.cells #[.int .i64 0, .int .i64 0, .int .i64 0, .int .i64 0, .int .i64 0, .int .i64 0, .int .i64 0, .string { data := #[] }] 26)).cell? ⟨w2.heap.size, 5, none⟩ = some (.int .i64 0) := X3.out.cell 5
  have x6 : (w3.alloc (.cells #[.int .i64 0, .int .i64 0, .int .i64 0, .int .i64 0, .int .i64 0, .int .i64 0, .int .i64 0, .string { data := #[] }] 26)).cell? ⟨w2.heap.size, 6, none⟩ = some (.int .i64 0) := X3.out.cell 6
  have x7 : (w3.alloc (.cells #[.int .i64 0, .int .i64 0, .int .i64 0, .int .i64 0, .int .i64 0, .int .i64 0, .int .i64 0, .string { data := #[] }] 26)).cell? ⟨w2.heap.size, 7, none⟩ = some (.string { data := #[] }) := X3.out.cell 7
  have y0 : (w3.alloc (.cells #[.int .i64 0, .int .i64 0, .int .i64 0, .int .i64 0, .int .i64 0, .int .i64 0, .int .i64 0, .string { data := #[] }] 26)).cell? ⟨w3.heap.size, 0, none⟩ = some (.int .i64 0) := Y3.out.cell 0
  have y1 : (w3.alloc (.cells #[.int .i64 0, .int .i64 0, .int .i64 0, .int .i64 0, .int .i64 0, .int .i64 0, .int .i64 0, .string { data := #[] }] 26)).cell? ⟨w3.heap.size, 1, none⟩ = some (.int .i64 0) := Y3.out.cell 1
  have y2 : (w3.alloc (.cells #[.int .i64 0, .int .i64 0, .int .i64 0, .int .i64 0, .int .i64 0, .int .i64 0, .int .i64 0, .string { data := #[] }] 26)).cell? ⟨w3.heap.size, 2, none⟩ = some (.int .i64 0) := Y3.out.cell 2
  have y3 : (w3.alloc (.cells #[.int .i64 0, .int .i64 0, .int .i64 0, .int .i64 0, .int .i64 0, .int .i64 0, .int .i64 0, .string { data := #[] }] 26)).cell? ⟨w3.heap.size, 3, none⟩ = some (.int .i64 0) := Y3.out.cell 3
  have y4 : (w3.alloc (.cells #[.int .i64 0, .int .i64 0, .int .i64 0, .int .i64 0, .int .i64 0, .int .i64 0, .int .i64 0, .string { data := #[] }] 26)).cell? ⟨w3.heap.size, 4, none⟩ = some (.int .i64 0) := Y3.out.cell 4
  have y5 : (w3.alloc (.cells #[.int .i64 0, .int .i64 0, .int .i64 0, .int .i64 0, .int .i64 0, .int .i64 0, .int .i64 0, .string { data := #[] }] 26)).cell? ⟨w3.heap.size, 5, none⟩ = some (.int .i64 0) := Y3.out.cell 5
  have y6 : (w3.alloc (.cells #[.int .i64 0, .int .i64 0, .int .i64 0, .int .i64 0, .int .i64 0, .int .i64 0, .int .i64 0, .string { data := #[] }] 26)).cell? ⟨w3.heap.size, 6, none⟩ = some (.int .i64 0) := Y3.out.cell 6
  have y7 : (w3.alloc (.cells #[.int .i64 0, .int .i64 0, .int .i64 0, .int .i64 0, .int .i64 0, .int .i64 0, .int .i64 0, .string { data := #[] }] 26)).cell? ⟨w3.heap.size, 7, none⟩ = some (.string { data := #[] }) := Y3.out.cell 7
  go_wp2_with fail
  refine (PQ.out _).mono ?_; rintro e w4 ⟨rfl, k4⟩
  have W4 := Lib.hid (below_step V3.out k4)
  clear k4 X3 Y3 V3 n3 x0 x1 x2 x3 x4 x5 x6 x7 y0 y1 y2 y3 y4 y5 y6 y7
  go_wp2_with fail
  refine (RR.out _).mono ?_; rintro e w5 ⟨⟨v5, rfl, ho5⟩, k5⟩
  have T5 := own_toks ho5
  obtain ⟨ao5, cap5, rfl, _⟩ := own_toks ho5
  have W5 := Lib.hid (below_alloc (below_step W4.out k5) (.cells #[.int .i64 b.err, .int .i64 b.at_, .slice ao5 b.toks.length cap5] 36))
  have T6 := Lib.hid (TokS.below T5 (below_alloc (Below.refl _ _) (.cells #[.int .i64 b.err, .int .i64 b.at_, .slice ao5 b.toks.length cap5] 36)))
  have P5 := Lib.hid (Blk.made w5 36 #[.int .i64 b.err, .int .i64 b.at_, .slice ao5 b.toks.length cap5])
  clear ho5 T5 k5 W4
  go_wp2_with fail
  refine (FR.out _).mono ?_; rintro e w6 ⟨⟨v6, rfl, ho6⟩, k6⟩
  have S6 := own_toks ho6
  obtain ⟨ao6, cap6, rfl, _⟩ := own_toks ho6
  have W6 := Lib.hid (below_alloc (below_step W5.out k6) (.cells #[.int .i64 b.err, .int .i64 b.at_, .slice ao6 b.toks.length cap6] 36))
  have T7 := Lib.hid (TokS.below (TokS.below T6.out k6) (below_alloc (Below.refl _ _) (.cells #[.int .i64 b.err, .int .i64 b.at_, .slice ao6 b.toks.length cap6] 36)))
  have S7 := Lib.hid (TokS.below S6 (below_alloc (Below.refl _ _) (.cells #[.int .i64 b.err, .int .i64 b.at_, .slice ao6 b.toks.length cap6] 36)))
  have P6 := Lib.hid (Blk.alloc (P5.out.below k6) (.cells #[.int .i64 b.err, .int .i64 b.at_, .slice ao6 b.toks.length cap6] 36))
  have Q6 := Lib.hid (Blk.made w6 36 #[.int .i64 b.err, .int .i64 b.at_, .slice ao6 b.toks.length cap6])
  have n6 := P6.out.lt
  clear ho6 S6 k6 P5 W5 T6
  have x0 : (w6.alloc (.cells #[.int .i64 b.err, .int .i64 b.at_, .slice ao6 b.toks.length cap6] 36)).cell? ⟨w5.heap.size, 0, none⟩ = some (.int .i64 b.err) := P6.out.cell 0
  have x1 : (w6.alloc (.cells #[.int .i64 b.err, .int .i64 b.at_, .slice ao6 b.toks.length cap6] 36)).cell? ⟨w5.heap.size, 1, none⟩ = some (.int .i64 b.at_) := P6.out.cell 1
  have x2 : (w6.alloc (.cells #[.int .i64 b.err, .int .i64 b.at_, .slice ao6 b.toks.length cap6] 36)).cell? ⟨w5.heap.size, 2, none⟩ = some (.slice ao5 b.toks.length cap5) := P6.out.cell 2
  have y0 : (w6.alloc (.cells #[.int .i64 b.err, .int .i64 b.at_, .slice ao6 b.toks.length cap6] 36)).cell? ⟨w6.heap.size, 0, none⟩ = some (.int .i64 b.err) := Q6.out.cell 0
  have y1 : (w6.alloc (.cells #[.int .i64 b.err, .int .i64 b.at_, .slice ao6 b.toks.length cap6] 36)).cell? ⟨w6.heap.size, 1, none⟩ = some (.int .i64 b.at_) := Q6.out.cell 1
  have y2 : (w6.alloc (.cells #[.int .i64 b.err, .int .i64 b.at_, .slice ao6 b.toks.length cap6] 36)).cell? ⟨w6.heap.size, 2, none⟩ = some (.slice ao6 b.toks.length cap6) := Q6.out.cell 2
  go_wp2_with (go_at_call 13; refine (SM.out _ _ _ T7.out S7.out).mono ?_; rintro e w7 ⟨rfl, k7⟩; have P7 := P6.out.below k7; have z0 : w7.cell? ⟨w5.heap.size, 0, none⟩ = some (.int .i64 b.err) := P7.cell 0; have z1 : w7.cell? ⟨w5.heap.size, 1, none⟩ = some (.int .i64 b.at_) := P7.cell 1; have z2 : w7.cell? ⟨w5.heap.size, 2, none⟩ = some (.slice ao5 b.toks.length cap5) := P7.cell 2)
  have W7 := Lib.hid (below_step W6.out k7)
  have T8 := Lib.hid (TokS.below T7.out k7)
  clear k7 W6 P6 Q6 x0 x1 x2 y0 y1 y2
  refine (PR.out _ _ T8.out).mono ?_; rintro e w8 ⟨rfl, k8⟩
  have W8 := Lib.hid (below_step W7.out k8)
  clear k8 W7 P7 z0 z1 z2
  go_wp2_with fail
  go_returns
  exact ⟨rfl, W8.out⟩
set_option maxHeartbeats 4000000 in
set_option maxRecDepth 100000 in
theorem reads_nn (l : List UInt8) (hl : l.length ≤ 3000) (hq : readQ l = none) (hr : readR l = none) (w : World) : Calls Try.prog 3 #[.string ⟨l.toArray⟩] w fun e w' => e = .returned (.bool true) ∧ Below w.heap.size w w' := by
  have AC := Lib.hid (fun w1 => awake_c w1)
  have hsb := mk_size l
  have RQ := Lib.hid (fun w1 => wread_no hq (by omega) w1)
  have FQ := Lib.hid (fun w1 => refRead_no hq (by omega) w1)
  have PQ := Lib.hid (fun w1 => print_no ⟨0, 0, 0, 0, 0, 0, 0, []⟩ (fun h => by have := h.1; simp at this) (by simp) w1)
  have EQ1 := rq_same ⟨0, 0, 0, 0, 0, 0, 0, []⟩
  unfold zeroA at RQ FQ
  unfold rqA str at PQ
  simp only at EQ1 PQ
  clear hq
  have RR := Lib.hid (fun w1 => wreadR_no hr (by omega) w1)
  have FR := Lib.hid (fun w1 => refReadR_no hr (by omega) w1)
  have okz : okR ⟨0, 0, []⟩ := ⟨by decide, by decide, ⟨by decide, by unfold most; decide⟩, by decide, fun t h => by cases h⟩
  have PR := Lib.hid (fun w1 h => printR_ok ⟨0, 0, []⟩ okz (.slice none 0 0) w1 h)
  have SM := Lib.hid (fun w1 h1 h2 => same25_c (.slice none 0 0) (.slice none 0 0) ⟨0, 0, []⟩ ⟨0, 0, []⟩ w1 (by decide) h1 h2)
  rw [show eqR ⟨0, 0, []⟩ ⟨0, 0, []⟩ = true from by simp [eqR, eqTs]] at SM
  have TZ := Lib.hid (fun w1 => show TokS w1 (.slice none 0 0) (⟨0, 0, []⟩ : Rp).toks from ⟨none, 0, rfl, fun h => by cases h⟩)
  generalize (⟨(encR ⟨0, 0, []⟩).toArray⟩ : ByteArray) = er at *
  clear okz hr
  generalize (⟨l.toArray⟩ : ByteArray) = sb at *
  have t1 : decide ((3000 : Int) < (sb.size : Nat)) = false := by simp; omega
  have hsc : sb.size ≤ 3000 := by omega
  clear hsb hl
  go_enter Try.func3, Try.ntmps3
  go_wp2_with fail
  refine (AC.out _).mono ?_; rintro e w1 ⟨rfl, k1⟩
  go_wp2_with fail
  refine (RQ.out _).mono ?_; rintro e w2 ⟨rfl, k2⟩
  have W2 := Lib.hid (below_step k1 k2)
  have X2 := Lib.hid (Blk.made w2 26 #[.int .i64 0, .int .i64 0, .int .i64 0, .int .i64 0, .int .i64 0, .int .i64 0, .int .i64 0, .string { data := #[] }])
  have V2 := Lib.hid (below_alloc W2.out (.cells #[.int .i64 0, .int .i64 0, .int .i64 0, .int .i64 0, .int .i64 0, .int .i64 0, .int .i64 0, .string { data := #[] }] 26))
  clear k1 k2 W2
  go_wp2_with fail
  refine (FQ.out _).mono ?_; rintro e w3 ⟨rfl, k3⟩
  have W3 := Lib.hid (below_step V2.out k3)
  have X3 := Lib.hid (Blk.alloc (X2.out.below k3) (.cells #[.int .i64 0, .int .i64 0, .int .i64 0, .int .i64 0, .int .i64 0, .int .i64 0, .int .i64 0, .string { data := #[] }] 26))
  have Y3 := Lib.hid (Blk.made w3 26 #[.int .i64 0, .int .i64 0, .int .i64 0, .int .i64 0, .int .i64 0, .int .i64 0, .int .i64 0, .string { data := #[] }])
  have V3 := Lib.hid (below_alloc W3.out (.cells #[.int .i64 0, .int .i64 0, .int .i64 0, .int .i64 0, .int .i64 0, .int .i64 0, .int .i64 0, .string { data := #[] }] 26))
  have n3 := X3.out.lt
  clear k3 X2 V2 W3
  have x0 : (w3.alloc (.cells #[.int .i64 0, .int .i64 0, .int .i64 0, .int .i64 0, .int .i64 0, .int .i64 0, .int .i64 0, .string { data := #[] }] 26)).cell? ⟨w2.heap.size, 0, none⟩ = some (.int .i64 0) := X3.out.cell 0
  have x1 : (w3.alloc (.cells #[.int .i64 0, .int .i64 0, .int .i64 0, .int .i64 0, .int .i64 0, .int .i64 0, .int .i64 0, .string { data := #[] }] 26)).cell? ⟨w2.heap.size, 1, none⟩ = some (.int .i64 0) := X3.out.cell 1
  have x2 : (w3.alloc (.cells #[.int .i64 0, .int .i64 0, .int .i64 0, .int .i64 0, .int .i64 0, .int .i64 0, .int .i64 0, .string { data := #[] }] 26)).cell? ⟨w2.heap.size, 2, none⟩ = some (.int .i64 0) := X3.out.cell 2
  have x3 : (w3.alloc (.cells #[.int .i64 0, .int .i64 0, .int .i64 0, .int .i64 0, .int .i64 0, .int .i64 0, .int .i64 0, .string { data := #[] }] 26)).cell? ⟨w2.heap.size, 3, none⟩ = some (.int .i64 0) := X3.out.cell 3
  have x4 : (w3.alloc (.cells #[.int .i64 0, .int .i64 0, .int .i64 0, .int .i64 0, .int .i64 0, .int .i64 0, .int .i64 0, .string { data := #[] }] 26)).cell? ⟨w2.heap.size, 4, none⟩ = some (.int .i64 0) := X3.out.cell 4
  have x5 : (w3.alloc (.cells #[.int .i64 0, .int .i64 0, .int .i64 0, .int .i64 0, .int .i64 0, .int .i64 0, .int .i64 0, .string { data := #[] }] 26)).cell? ⟨w2.heap.size, 5, none⟩ = some (.int .i64 0) := X3.out.cell 5
  have x6 : (w3.alloc (.cells #[.int .i64 0, .int .i64 0, .int .i64 0, .int .i64 0, .int .i64 0, .int .i64 0, .int .i64 0, .string { data := #[] }] 26)).cell? ⟨w2.heap.size, 6, none⟩ = some (.int .i64 0) := X3.out.cell 6
  have x7 : (w3.alloc (.cells #[.int .i64 0, .int .i64 0, .int .i64 0, .int .i64 0, .int .i64 0, .int .i64 0, .int .i64 0, .string { data := #[] }] 26)).cell? ⟨w2.heap.size, 7, none⟩ = some (.string { data := #[] }) := X3.out.cell 7
  have y0 : (w3.alloc (.cells #[.int .i64 0, .int .i64 0, .int .i64 0, .int .i64 0, .int .i64 0, .int .i64 0, .int .i64 0, .string { data := #[] }] 26)).cell? ⟨w3.heap.size, 0, none⟩ = some (.int .i64 0) := Y3.out.cell 0
  have y1 : (w3.alloc (.cells #[.int .i64 0, .int .i64 0, .int .i64 0, .int .i64 0, .int .i64 0, .int .i64 0, .int .i64 0, .string { data := #[] }] 26)).cell? ⟨w3.heap.size, 1, none⟩ = some (.int .i64 0) := Y3.out.cell 1
  have y2 : (w3.alloc (.cells #[.int .i64 0, .int .i64 0, .int .i64 0, .int .i64 0, .int .i64 0, .int .i64 0, .int .i64 0, .string { data := #[] }] 26)).cell? ⟨w3.heap.size, 2, none⟩ = some (.int .i64 0) := Y3.out.cell 2
  have y3 : (w3.alloc (.cells #[.int .i64 0, .int .i64 0, .int .i64 0, .int .i64 0, .int .i64 0, .int .i64 0, .int .i64 0, .string { data := #[] }] 26)).cell? ⟨w3.heap.size, 3, none⟩ = some (.int .i64 0) := Y3.out.cell 3
  have y4 : (w3.alloc (.cells #[.int .i64 0, .int .i64 0, .int .i64 0, .int .i64 0, .int .i64 0, .int .i64 0, .int .i64 0, .string { data := #[] }] 26)).cell? ⟨w3.heap.size, 4, none⟩ = some (.int .i64 0) := Y3.out.cell 4
  have y5 : (w3.alloc (.cells #[.int .i64 0, .int .i64 0, .int .i64 0, .int .i64 0, .int .i64 0, .int .i64 0, .int .i64 0, .string { data := #[] }] 26)).cell? ⟨w3.heap.size, 5, none⟩ = some (.int .i64 0) := Y3.out.cell 5
  have y6 : (w3.alloc (.cells #[.int .i64 0, .int .i64 0, .int .i64 0, .int .i64 0, .int .i64 0, .int .i64 0, .int .i64 0, .string { data := #[] }] 26)).cell? ⟨w3.heap.size, 6, none⟩ = some (.int .i64 0) := Y3.out.cell 6
  have y7 : (w3.alloc (.cells #[.int .i64 0, .int .i64 0, .int .i64 0, .int .i64 0, .int .i64 0, .int .i64 0, .int .i64 0, .string { data := #[] }] 26)).cell? ⟨w3.heap.size, 7, none⟩ = some (.string { data := #[] }) := Y3.out.cell 7
  go_wp2_with fail
  refine (PQ.out _).mono ?_; rintro e w4 ⟨rfl, k4⟩
  have W4 := Lib.hid (below_step V3.out k4)
  clear k4 X3 Y3 V3 n3 x0 x1 x2 x3 x4 x5 x6 x7 y0 y1 y2 y3 y4 y5 y6 y7
  go_wp2_with fail
  refine (RR.out _).mono ?_; rintro e w5 ⟨rfl, k5⟩
  have W5 := Lib.hid (below_alloc (below_step W4.out k5) (.cells #[.int .i64 0, .int .i64 0, .slice none 0 0] 36))
  have P5 := Lib.hid (Blk.made w5 36 #[.int .i64 0, .int .i64 0, .slice none 0 0])
  clear k5 W4
  go_wp2_with fail
  refine (FR.out _).mono ?_; rintro e w6 ⟨rfl, k6⟩
  have W6 := Lib.hid (below_alloc (below_step W5.out k6) (.cells #[.int .i64 0, .int .i64 0, .slice none 0 0] 36))
  have P6 := Lib.hid (Blk.alloc (P5.out.below k6) (.cells #[.int .i64 0, .int .i64 0, .slice none 0 0] 36))
  have Q6 := Lib.hid (Blk.made w6 36 #[.int .i64 0, .int .i64 0, .slice none 0 0])
  have n6 := P6.out.lt
  clear k6 P5 W5
  have x0 : (w6.alloc (.cells #[.int .i64 0, .int .i64 0, .slice none 0 0] 36)).cell? ⟨w5.heap.size, 0, none⟩ = some (.int .i64 0) := P6.out.cell 0
  have x1 : (w6.alloc (.cells #[.int .i64 0, .int .i64 0, .slice none 0 0] 36)).cell? ⟨w5.heap.size, 1, none⟩ = some (.int .i64 0) := P6.out.cell 1
  have x2 : (w6.alloc (.cells #[.int .i64 0, .int .i64 0, .slice none 0 0] 36)).cell? ⟨w5.heap.size, 2, none⟩ = some (.slice none 0 0) := P6.out.cell 2
  have y0 : (w6.alloc (.cells #[.int .i64 0, .int .i64 0, .slice none 0 0] 36)).cell? ⟨w6.heap.size, 0, none⟩ = some (.int .i64 0) := Q6.out.cell 0
  have y1 : (w6.alloc (.cells #[.int .i64 0, .int .i64 0, .slice none 0 0] 36)).cell? ⟨w6.heap.size, 1, none⟩ = some (.int .i64 0) := Q6.out.cell 1
  have y2 : (w6.alloc (.cells #[.int .i64 0, .int .i64 0, .slice none 0 0] 36)).cell? ⟨w6.heap.size, 2, none⟩ = some (.slice none 0 0) := Q6.out.cell 2
  go_wp2_with (go_at_call 13; refine (SM.out _ (TZ.out _) (TZ.out _)).mono ?_; rintro e w7 ⟨rfl, k7⟩; have P7 := P6.out.below k7; have z0 : w7.cell? ⟨w5.heap.size, 0, none⟩ = some (.int .i64 0) := P7.cell 0; have z1 : w7.cell? ⟨w5.heap.size, 1, none⟩ = some (.int .i64 0) := P7.cell 1; have z2 : w7.cell? ⟨w5.heap.size, 2, none⟩ = some (.slice none 0 0) := P7.cell 2)
  have W7 := Lib.hid (below_step W6.out k7)
  clear k7 W6 P6 Q6 x0 x1 x2 y0 y1 y2
  refine (PR.out _ (TZ.out _)).mono ?_; rintro e w8 ⟨rfl, k8⟩
  have W8 := Lib.hid (below_step W7.out k8)
  clear k8 W7 P7 z0 z1 z2
  go_wp2_with fail
  go_returns
  exact ⟨rfl, W8.out⟩
theorem reads_c (l : List UInt8) (hb : l.length ≤ 140737488351232) (w : World) : Calls Try.prog 3 #[.string ⟨l.toArray⟩] w fun e w' => e = .returned (.bool true) ∧ Below w.heap.size w w' := by
  by_cases h : 3000 < l.length
  · exact reads_long l hb h w
  · have hl : l.length ≤ 3000 := by omega
    cases hq : readQ l with
    | none =>
      cases hr : readR l with
      | none => exact reads_nn l hl hq hr w
      | some p => exact reads_nr l hl hq p.1 p.2 hr w
    | some x =>
      cases hr : readR l with
      | none => exact reads_qn l hl x.1 x.2 hq hr w
      | some p => exact reads_qr l hl x.1 x.2 hq p.1 p.2 hr w
end Go.Proofs.Ytgcjfjmnccajeaa
