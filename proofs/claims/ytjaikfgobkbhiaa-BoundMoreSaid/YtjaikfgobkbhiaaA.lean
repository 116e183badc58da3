/- Plain numbers of layer 23: cut, plus, times, and the closed forms. -/
import Derived.WalkKit
namespace Go.Proofs.Ytjaikfgobkbhiaa
def cutZ (n : Int) : Int := if n < 0 then 0 else if 1099511627776 < n then 1099511627776 else n
def plusZ (a b : Int) : Int := cutZ (a + b)
def timesZ (a b : Int) : Int := cutZ (a * b)
/-- A number from 0 to 2^40. -/
def Cnt (n : Int) : Prop := 0 ≤ n ∧ n ≤ 1099511627776
theorem cut_cnt (n : Int) : Cnt (cutZ n) := by unfold Cnt cutZ; (repeat' split) <;> omega
theorem plus_cnt (a b : Int) : Cnt (plusZ a b) := cut_cnt _
theorem times_cnt (a b : Int) : Cnt (timesZ a b) := cut_cnt _
theorem cut_id {n : Int} (h : Cnt n) : cutZ n = n := by unfold Cnt at h; unfold cutZ; rw [if_neg (by omega), if_neg (by omega)]
theorem cut_mono {a b : Int} (h : a ≤ b) : cutZ a ≤ cutZ b := by unfold cutZ; (repeat' split) <;> omega
theorem plus_mono {a b c d : Int} (h : a ≤ c) (g : b ≤ d) : plusZ a b ≤ plusZ c d := cut_mono (by omega)
theorem times_mono {a b c d : Int} (ha : 0 ≤ a) (hb : 0 ≤ b) (h : a ≤ c) (g : b ≤ d) : timesZ a b ≤ timesZ c d :=
  cut_mono (Int.mul_le_mul h g hb (by omega))
theorem times_big {a b : Int} (ha : 1 ≤ a) (h : 1099511627776 / a < b) : timesZ a b = 1099511627776 := by
  have h1 : 1099511627776 < a * b := by
    have e := Int.mul_ediv_add_emod 1099511627776 a
    have l := Int.emod_lt_of_pos 1099511627776 (by omega : 0 < a)
    have m : a * (1099511627776 / a + 1) ≤ a * b := Int.mul_le_mul_of_nonneg_left (by omega) (by omega)
    rw [Int.mul_add, Int.mul_one] at m
    omega
  unfold timesZ cutZ
  rw [if_neg (by omega), if_pos h1]
theorem times_small {a b : Int} (ha : 1 ≤ a) (hb : 0 ≤ b) (h : b ≤ 1099511627776 / a) : 0 ≤ a * b ∧ a * b ≤ 1099511627776 ∧ timesZ a b = a * b := by
  have e := Int.mul_ediv_add_emod 1099511627776 a
  have l := Int.emod_nonneg 1099511627776 (by omega : a ≠ 0)
  have m : a * b ≤ a * (1099511627776 / a) := Int.mul_le_mul_of_nonneg_left h (by omega)
  have p : 0 ≤ a * b := Int.mul_nonneg (by omega) hb
  refine ⟨p, by omega, cut_id ⟨p, by omega⟩⟩
theorem times_zero (b : Int) : timesZ 0 b = 0 := by unfold timesZ; rw [Int.zero_mul]; rfl

def cellsZ (engine states classes most : Int) : Int :=
  if engine = 1 then plusZ (plusZ (timesZ (cutZ states) 3) 256) (timesZ (cutZ most) (plusZ (cutZ classes) 1))
  else if engine = 2 then plusZ (timesZ (cutZ states) 3) (timesZ (cutZ most) (plusZ (cutZ classes) 1))
  else if engine = 3 then timesZ (cutZ states) 3 else -1
def compileZ (file wide states classes most : Int) : Int :=
  if most > 0 then plusZ (plusZ (plusZ (cutZ file) (cutZ wide)) (cutZ states)) (timesZ (timesZ (cutZ states) 2) (plusZ (timesZ (cutZ most) (cutZ classes)) 1))
  else plusZ (plusZ (cutZ file) (cutZ wide)) (cutZ states)
def scanZ (engine states input : Int) : Int :=
  if engine = 1 then timesZ (plusZ (cutZ input) 1) (plusZ (cutZ input) 1)
  else if engine = 2 ∨ engine = 3 then plusZ (timesZ (timesZ (plusZ (cutZ input) 1) (plusZ (cutZ input) 1)) (timesZ (cutZ states) 2)) (timesZ (plusZ (cutZ input) 1) (plusZ (cutZ states) 1))
  else -1
def rowsZ (engine st ca : Int) : Int := if engine = 1 then st else if engine = 2 then ca else 0
def enoughZ (c s st ca engine states classes file input : Int) : Bool :=
  decide (1 ≤ engine ∧ engine ≤ 3 ∧ cellsZ engine states classes (rowsZ engine st ca) ≤ c ∧ compileZ file 400 states classes st ≤ s ∧ scanZ engine states input ≤ s)
end Go.Proofs.Ytjaikfgobkbhiaa
