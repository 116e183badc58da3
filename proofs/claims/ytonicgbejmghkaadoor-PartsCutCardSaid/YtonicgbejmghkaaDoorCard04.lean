/- What the rows of this chapter share: the listed table, an argument that is a set. -/
import Derived.Test.YtonicgbejmghkaaDoorBits
import Derived.Test.YtonicgbejmghkaaDoorTie
import Derived.Test.YtonicgbejmghkaaDoorCards
import Derived.LaidMore
import Derived.LaidHandle
import Derived.OpenShut
import Derived.ChangeArms
import Derived.Laws.IdiomArrays
import Derived.WideKeyArr2
import Derived.Stop.Joined
import Derived.SevenTiedAt
namespace Go.Proofs.YtonicgbejmghkaaDoor
open Go.ChangeShapes Go.WideShapes Go.ChangeAt Go.WideMaps Go.WideElems Go.RowKit
abbrev laidL : List (String × DataW Unit) := [("math/bits.deBruijn64tab", Rows.laid_math_bits_deBruijn64tab)]
theorem own : ownKnob Tryd.prog.godebug = none := by kernel_rfl
theorem laidOut : laidOutB Tryd.prog = true := by kernel_rfl
theorem gTab : Tryd.prog.globalNamed "math/bits.deBruijn64tab" = some 0 := by kernel_rfl
theorem tTab : (Tryd.prog.globals[0]?).map (·.type) = some 61 := by kernel_rfl
theorem door_met (os : Os) (args : Array Value) : laidMetH Tryd.prog laidL ((World.doorLaid Tryd.prog 400 os).forCall (fun _ _ => 0) ⟨#[], args, []⟩).memory :=
  laidMetH_of_parts3 (fuel := 8) (laidMet_of_run' 8 (by kernel_rfl) (by kernel_rfl)) (by kernel_rfl) (by kernel_rfl)
theorem tab_datum : (Rows.laid_math_bits_deBruijn64tab : DataW Unit) = .agg (Lib.deBruijn64tab.map fun (n : Nat) => .lit (.int .u8 n)) := rfl
theorem cells_u8 : Tryd.prog.cellsOf 5 = 1 := by kernel_rfl
theorem cells_w64 : Tryd.prog.cellsOf 33 = 1 := by kernel_rfl
theorem of_laid {W : World} (h : laidMetH Tryd.prog laidL W) : TabAt 0 Lib.deBruijn64tab W := by
  rw [MakeChecks.laidMetH_plain _ _ _ (by kernel_rfl)] at h
  obtain ⟨ps, ⟨g0, t0, cs0, f0, p0, q0, hg0, ht0, hv0, hd0, _, _⟩, _, _⟩ := h
  obtain rfl := Option.some.inj (gTab.symm.trans hg0)
  obtain rfl := Option.some.inj (tTab.symm.trans ht0)
  obtain ⟨xs, m1, rfl, hx1, hlen, hn, hel⟩ := DataW.trod_array Tryd.underlying61 hd0
  rw [tab_datum] at hx1
  simp only [Prod.mk.injEq, DataW.agg.injEq] at hx1
  intro j hj
  have hj64 : j < 64 := hj
  have hc := hel j hj64
  rw [cells_u8, Nat.mul_one] at hc
  have hxj : xs[j]? = some xs[j] := List.getElem?_eq_getElem (by omega)
  rw [hxj] at hc
  obtain ⟨n, e1, e2, _⟩ := DataW.trod_int Tryd.underlying5 hc
  have hl := hx1.1
  have hm : (xs.map (·.1))[j]? = (Lib.deBruijn64tab.map fun (n : Nat) => (DataW.lit (.int .u8 n) : DataW Unit))[j]? := by rw [← hl]
  rw [List.getElem?_map, hxj, List.getElem?_map, List.getElem?_eq_getElem hj] at hm
  simp only [Option.map_some, Option.some.injEq] at hm
  rw [e2] at hm
  simp only [DataW.lit.injEq, Lit.int.injEq, true_and] at hm
  have hcell := World.var?_cell hg0 hv0 j
  rw [hcell, List.getD_eq_getElem?_getD, List.getElem?_eq_getElem hj, Option.getD_some, ← hm]
  have hd : (cs0.toList.drop j)[0]? = some (.int .u8 n) := by
    have : ((cs0.toList.drop j).take 1)[0]? = some (.int .u8 n) := by rw [e1]; rfl
    rw [List.getElem?_take] at this
    simpa using this
  rw [List.getElem?_drop] at hd
  simpa using hd
/-- An argument that is a set. -/
theorem open_set {H : Type} {enc : TypeId × Value → H} {W : World} {r : Reach} {b0 : Nat} {v : Value} {d : DataW H} {p : List MemPlace} {sp : Nat → Bool} {base : Nat} {held : Bool} (hv : Value.okWide Tryd.prog W r b0 35 v) (h : DataW.Trod enc Tryd.prog W base sp held 35 v d p) : ∃ S : Nat → Nat, okS S ∧ v = setV S := by
  obtain ⟨fuel, hf⟩ := h
  have hu := Tryd.underlying35
  simp only [Value.okWide, hu] at hv
  obtain ⟨cs, rfl, h2, _⟩ := hv
  have h4 : cs.toList.length = 4 := by
    have : Tryd.prog.cellsOf 35 = 4 := by kernel_rfl
    have h2' := h2
    rw [this] at h2'
    simpa using h2'
  obtain ⟨l⟩ := cs
  match l, h4 with
  | [c0, c1, c2, c3], _ =>
    obtain ⟨y0, y1, y2, y3, n, _, t0, t1, t2, t3⟩ := trod_array4 hu cells_w64 hf
    obtain ⟨a0, e0, _, w0⟩ := DataW.trod_int Tryd.underlying33 t0
    obtain ⟨a1, e1, _, w1⟩ := DataW.trod_int Tryd.underlying33 t1
    obtain ⟨a2, e2, _, w2⟩ := DataW.trod_int Tryd.underlying33 t2
    obtain ⟨a3, e3, _, w3⟩ := DataW.trod_int Tryd.underlying33 t3
    simp only [List.cons.injEq, and_true] at e0 e1 e2 e3
    subst e0 e1 e2 e3
    have b : ∀ {a : Int}, (Lit.int .u64 a).wf = true → 0 ≤ a ∧ a < 18446744073709551616 := fun {a} h => by
      simp only [Lit.wf] at h
      rw [show IntKind.u64.min = 0 from by decide, show IntKind.u64.max = 18446744073709551615 from by decide, Bool.and_eq_true, decide_eq_true_iff, decide_eq_true_iff] at h
      omega
    have b0 := b w0
    have b1 := b w1
    have b2 := b w2
    have b3 := b w3
    refine ⟨fun i => if i = 0 then a0.toNat else if i = 1 then a1.toNat else if i = 2 then a2.toNat else a3.toNat, fun i => ?_, ?_⟩
    · show (if i = 0 then _ else _) < _
      (repeat' split) <;> omega
    · simp [setV, Int.toNat_of_nonneg b0.1, Int.toNat_of_nonneg b1.1, Int.toNat_of_nonneg b2.1, Int.toNat_of_nonneg b3.1]
/-- An argument that is a byte. -/
theorem open_byte {H : Type} {enc : TypeId × Value → H} {W : World} {r : Reach} {b0 : Nat} {v : Value} {d : DataW H} {p : List MemPlace} {sp : Nat → Bool} {base : Nat} {held : Bool} (hv : Value.okWide Tryd.prog W r b0 5 v) (h : DataW.Trod enc Tryd.prog W base sp held 5 v d p) : ∃ b : Nat, b < 256 ∧ v = .int .u8 b := by
  obtain ⟨n, rfl, _, _, wf⟩ := open_int Tryd.underlying5 hv h
  simp only [Lit.wf] at wf
  rw [show IntKind.u8.min = 0 from by decide, show IntKind.u8.max = 255 from by decide, Bool.and_eq_true, decide_eq_true_iff, decide_eq_true_iff] at wf
  exact ⟨n.toNat, by omega, by rw [Int.toNat_of_nonneg wf.1]⟩
end Go.Proofs.YtonicgbejmghkaaDoor
