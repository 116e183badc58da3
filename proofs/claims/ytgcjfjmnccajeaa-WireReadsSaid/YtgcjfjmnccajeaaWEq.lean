/- Structs held against each other. -/
import Derived.Test.YtgcjfjmnccajeaaWire1
namespace Go.Proofs.Ytgcjfjmnccajeaa
open Go.RowKit
theorem quota_eql' (d : Nat) (a0 a1 a2 a3 a4 b0 b1 b2 b3 b4 : Int) (w : World) : (Op.equalIn (d + 1 + 1) 24 (.agg #[.int .i64 a0, .int .i64 a1, .int .i64 a2, .int .i64 a3, .int .i64 a4]) (.agg #[.int .i64 b0, .int .i64 b1, .int .i64 b2, .int .i64 b3, .int .i64 b4])).run Try.prog w =
    .ok (a0 == b0 && (a1 == b1 && (a2 == b2 && (a3 == b3 && a4 == b4)))) w := by
  unfold Op.equalIn
  simp [run_underlying Try.underlying24, Sem.run_bind, go_sem, Try.isAgg3, run_equalIn_int _ d 3 .i64 .i64 _ _ Try.underlying3]
  by_cases h0 : a0 = b0 <;> by_cases h1 : a1 = b1 <;> by_cases h2 : a2 = b2 <;> by_cases h3 : a3 = b3 <;> by_cases h4 : a4 = b4 <;> simp [h0, h1, h2, h3, h4]
theorem quota_neq (a0 a1 a2 a3 a4 b0 b1 b2 b3 b4 : Int) (w : World) : (binOp .neq 24 (.agg #[.int .i64 a0, .int .i64 a1, .int .i64 a2, .int .i64 a3, .int .i64 a4]) (.agg #[.int .i64 b0, .int .i64 b1, .int .i64 b2, .int .i64 b3, .int .i64 b4])).run Try.prog w =
    .ok (.bool (!(a0 == b0 && (a1 == b1 && (a2 == b2 && (a3 == b3 && a4 == b4)))))) w := by
  simp only [binOp]
  simp [Op.equal, Op.maxDepth, quota_eql' 9998]
theorem token_eql' (d : Nat) (a0 a1 a2 b0 b1 b2 : Int) (w : World) : (Op.equalIn (d + 1 + 1) 78 (.agg #[.int .i64 a0, .int .i64 a1, .int .i64 a2]) (.agg #[.int .i64 b0, .int .i64 b1, .int .i64 b2])).run Try.prog w =
    .ok (a0 == b0 && (a1 == b1 && a2 == b2)) w := by
  unfold Op.equalIn
  simp [run_underlying Try.underlying78, Sem.run_bind, go_sem, Try.isAgg3, run_equalIn_int _ d 3 .i64 .i64 _ _ Try.underlying3]
  by_cases h0 : a0 = b0 <;> by_cases h1 : a1 = b1 <;> by_cases h2 : a2 = b2 <;> simp [h0, h1, h2]
theorem token_neq (a0 a1 a2 b0 b1 b2 : Int) (w : World) : (binOp .neq 78 (.agg #[.int .i64 a0, .int .i64 a1, .int .i64 a2]) (.agg #[.int .i64 b0, .int .i64 b1, .int .i64 b2])).run Try.prog w =
    .ok (.bool (!(a0 == b0 && (a1 == b1 && a2 == b2)))) w := by
  simp only [binOp]
  simp [Op.equal, Op.maxDepth, token_eql' 9998]
theorem str_eql (d : Nat) (s t : ByteArray) (w : World) : (Op.equalIn (d + 1) 9 (.string s) (.string t)).run Try.prog w = .ok (s == t) w := by
  unfold Op.equalIn
  simp [run_underlying Try.underlying9]
theorem req_eql' (d : Nat) (k t q0 q1 q2 q3 q4 k' t' q0' q1' q2' q3' q4' : Int) (s s' : ByteArray) (w : World) : (Op.equalIn (d + 1 + 1 + 1) 26 (.agg #[.int .i64 k, .int .i64 t, .int .i64 q0, .int .i64 q1, .int .i64 q2, .int .i64 q3, .int .i64 q4, .string s]) (.agg #[.int .i64 k', .int .i64 t', .int .i64 q0', .int .i64 q1', .int .i64 q2', .int .i64 q3', .int .i64 q4', .string s'])).run Try.prog w =
    .ok (k == k' && (t == t' && ((q0 == q0' && (q1 == q1' && (q2 == q2' && (q3 == q3' && q4 == q4')))) && s == s'))) w := by
  unfold Op.equalIn
  simp [run_underlying Try.underlying26, Sem.run_bind, go_sem, Try.isAgg3, Try.isAgg24, Try.isAgg9, run_equalIn_int _ (d + 1) 3 .i64 .i64 _ _ Try.underlying3, quota_eql' d, str_eql (d + 1)]
  generalize (s == s') = bs
  by_cases h0 : k = k' <;> by_cases h1 : t = t' <;> simp [h0, h1]
  by_cases g0 : q0 = q0' <;> by_cases g1 : q1 = q1' <;> by_cases g2 : q2 = q2' <;> by_cases g3 : q3 = q3' <;> by_cases g4 : q4 = q4' <;> cases bs <;> simp [g0, g1, g2, g3, g4]
theorem req_cmp (k t q0 q1 q2 q3 q4 k' t' q0' q1' q2' q3' q4' : Int) (s s' : ByteArray) (w : World) : (binOp .eql 26 (.agg #[.int .i64 k, .int .i64 t, .int .i64 q0, .int .i64 q1, .int .i64 q2, .int .i64 q3, .int .i64 q4, .string s]) (.agg #[.int .i64 k', .int .i64 t', .int .i64 q0', .int .i64 q1', .int .i64 q2', .int .i64 q3', .int .i64 q4', .string s'])).run Try.prog w =
    .ok (.bool (k == k' && (t == t' && ((q0 == q0' && (q1 == q1' && (q2 == q2' && (q3 == q3' && q4 == q4')))) && s == s')))) w := by
  simp only [binOp]
  simp [Op.equal, Op.maxDepth, req_eql' 9997]
theorem req_neq (k t q0 q1 q2 q3 q4 k' t' q0' q1' q2' q3' q4' : Int) (s s' : ByteArray) (w : World) : (binOp .neq 26 (.agg #[.int .i64 k, .int .i64 t, .int .i64 q0, .int .i64 q1, .int .i64 q2, .int .i64 q3, .int .i64 q4, .string s]) (.agg #[.int .i64 k', .int .i64 t', .int .i64 q0', .int .i64 q1', .int .i64 q2', .int .i64 q3', .int .i64 q4', .string s'])).run Try.prog w =
    .ok (.bool (!(k == k' && (t == t' && ((q0 == q0' && (q1 == q1' && (q2 == q2' && (q3 == q3' && q4 == q4')))) && s == s'))))) w := by
  simp only [binOp]
  simp [Op.equal, Op.maxDepth, req_eql' 9997]
end Go.Proofs.Ytgcjfjmnccajeaa
