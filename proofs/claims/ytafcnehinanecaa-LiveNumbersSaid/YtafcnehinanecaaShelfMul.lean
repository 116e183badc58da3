/- math/bits.Mul by the kit's contract. -/
import Derived.Shelf.Bits.Mul64
import Derived.Test.YtafcnehinanecaaProg
namespace Go.Proofs
open Go.Shelf
def Try.lays212_ren : Go.Shelf.Ren := ⟨fun | 212 => 57 | 263 => 71 | 264 => 72 | n => n, fun | 46 => 69 | 51 => 88 | 53 => 90 | 146 => 94 | 148 => 96 | n => n, fun | n => n⟩
theorem Try.lays212 : Go.Proofs.Lays.n212 Try.prog Try.lays212_ren := {
  mixed := by kernel_rfl
  f212 := Try.func57.trans (congrArg some (by kernel_rfl))
  f263 := Try.func71.trans (congrArg some (by kernel_rfl))
  f264 := Try.func72.trans (congrArg some (by kernel_rfl))
  t46 := Try.underlying69
  a46 := Try.isAgg69
  z46 := Try.sizeOf69
  v46 := Try.zeroValue69
  t51 := Try.underlying88
  a51 := Try.isAgg88
  z51 := Try.sizeOf88
  v51 := Try.zeroValue88
  t53 := Try.underlying90
  a53 := Try.isAgg90
  z53 := Try.sizeOf90
  v53 := Try.zeroValue90
  t146 := Try.underlying94
  a146 := Try.isAgg94
  z146 := Try.sizeOf94
  v146 := Try.zeroValue94
  t148 := Try.underlying96
  a148 := Try.isAgg96
  z148 := Try.sizeOf96
  v148 := Try.zeroValue96 }
theorem Try.bits_Mul (x y : Nat) (hx : x < 18446744073709551616) (hy : y < 18446744073709551616) (w : World) :
    Calls Try.prog 57 #[.int .u64 x, .int .u64 y] w fun e w' => e = .returned (.tuple #[.int .u64 ((x * y / 18446744073709551616 : Nat) : Int), .int .u64 ((x * y % 18446744073709551616 : Nat) : Int)]) ∧ w' = w := Any.bits_Mul Try.lays212 x y hx hy w
end Go.Proofs
