/- Arrays held against each other. -/
import Derived.Test.YtonicgbejmghkaaDoorBytes
namespace Go.Proofs.YtonicgbejmghkaaDoor
open Go.RowKit
theorem set_eql' (d : Nat) (a0 a1 a2 a3 b0 b1 b2 b3 : Int) (w : World) : (Op.equalIn (d + 1 + 1) 35 (.agg #[.int .u64 a0, .int .u64 a1, .int .u64 a2, .int .u64 a3]) (.agg #[.int .u64 b0, .int .u64 b1, .int .u64 b2, .int .u64 b3])).run Tryd.prog w = .ok (a0 == b0 && (a1 == b1 && (a2 == b2 && a3 == b3))) w := by
  have r4 : List.range' 0 4 = [0, 1, 2, 3] := rfl
  unfold Op.equalIn
  simp [run_underlying Tryd.underlying35, Sem.run_bind, r4, go_sem, Tryd.isAgg33, run_equalIn_int _ d 33 .u64 .u64 _ _ Tryd.underlying33]
  by_cases h0 : a0 = b0 <;> by_cases h1 : a1 = b1 <;> by_cases h2 : a2 = b2 <;> by_cases h3 : a3 = b3 <;> simp [h0, h1, h2, h3]
theorem set_eql (a0 a1 a2 a3 b0 b1 b2 b3 : Int) (w : World) : (Op.equalIn 10000 35 (.agg #[.int .u64 a0, .int .u64 a1, .int .u64 a2, .int .u64 a3]) (.agg #[.int .u64 b0, .int .u64 b1, .int .u64 b2, .int .u64 b3])).run Tryd.prog w = .ok (a0 == b0 && (a1 == b1 && (a2 == b2 && a3 == b3))) w := set_eql' 9998 ..
theorem set_same (a0 a1 a2 a3 : Int) (w : World) : (Op.equalIn 10000 35 (.agg #[.int .u64 a0, .int .u64 a1, .int .u64 a2, .int .u64 a3]) (.agg #[.int .u64 a0, .int .u64 a1, .int .u64 a2, .int .u64 a3])).run Tryd.prog w = .ok true w := by
  rw [set_eql]; simp
theorem pair_eql' (d : Nat) (a0 a1 b0 b1 : Int) (w : World) : (Op.equalIn (d + 1 + 1) 57 (.agg #[.int .u8 a0, .int .u8 a1]) (.agg #[.int .u8 b0, .int .u8 b1])).run Tryd.prog w = .ok (a0 == b0 && a1 == b1) w := by
  have r2 : List.range' 0 2 = [0, 1] := rfl
  unfold Op.equalIn
  simp [run_underlying Tryd.underlying57, Sem.run_bind, r2, go_sem, Tryd.isAgg5, run_equalIn_int _ d 5 .u8 .u8 _ _ Tryd.underlying5]
  by_cases h0 : a0 = b0 <;> by_cases h1 : a1 = b1 <;> simp [h0, h1]
theorem pair_eql (a0 a1 b0 b1 : Int) (w : World) : (Op.equalIn 10000 57 (.agg #[.int .u8 a0, .int .u8 a1]) (.agg #[.int .u8 b0, .int .u8 b1])).run Tryd.prog w = .ok (a0 == b0 && a1 == b1) w := pair_eql' 9998 ..
theorem pair_same (a0 a1 : Int) (w : World) : (Op.equalIn 10000 57 (.agg #[.int .u8 a0, .int .u8 a1]) (.agg #[.int .u8 a0, .int .u8 a1])).run Tryd.prog w = .ok true w := by
  rw [pair_eql]; simp
end Go.Proofs.YtonicgbejmghkaaDoor
