/- The walk of BytesTexts. -/
import Derived.Test.YtgcbcmgadllhlaaDoorLaws04
import Derived.Test.YtgcbcmgadllhlaaDoorTextInj
namespace Go.Proofs.YtgcbcmgadllhlaaDoor
open Go.RowKit
theorem set_word {S T : Nat → Nat} (h : ∀ b, b < 256 → has S b = has T b) (hS : okS S) (hT : okS T) (q : Nat) (hq : q < 4) : S q = T q := by
  apply Nat.eq_of_testBit_eq
  intro i
  by_cases hi : i < 64
  · have := h (q * 64 + i) (by omega)
    unfold has at this
    rw [show (q * 64 + i) / 64 = q from by omega, show (q * 64 + i) % 64 = i from by omega] at this
    exact this
  · rw [Nat.testBit_lt_two_pow (Nat.lt_of_lt_of_le (hS q) (show 18446744073709551616 ≤ 2 ^ i from Nat.pow_le_pow_right (n := 2) (i := 64) (by omega) (by omega))), Nat.testBit_lt_two_pow (Nat.lt_of_lt_of_le (hT q) (show 18446744073709551616 ≤ 2 ^ i from Nat.pow_le_pow_right (n := 2) (i := 64) (by omega) (by omega)))]
theorem list_mk (l : List UInt8) : (ByteArray.mk l.toArray).toList = l := by
  rw [ByteArray.toList_eq]
theorem runs_congr {p q : Nat → Bool} : ∀ {n : Nat}, (∀ i, i < n → p i = q i) → runs p n = runs q n
  | 0, _ => rfl
  | n + 1, h => by
    have ih := runs_congr (n := n) (fun i hi => h i (by omega))
    unfold runs
    rw [ih, h n (by omega), h (n - 1) (by omega)]
theorem firstB_congr {p q : Nat → Bool} : ∀ {n : Nat}, (∀ i, i < n → p i = q i) → firstB p n = firstB q n
  | 0, _ => rfl
  | n + 1, h => by
    have ih := firstB_congr (n := n) (fun i hi => h i (by omega))
    unfold firstB
    rw [ih, h n (by omega)]
theorem text_congr {S T : Nat → Nat} (hS : okS S) (hT : okS T) (h : ∀ b, b < 256 → has S b = has T b) : textB S = textB T := by
  have h1 : cntS S = cntS T := cntB_congr h
  have h2 : leastS S = leastS T := firstB_congr h
  have h3 : insideB S = insideB T := by unfold insideB rangesS; rw [runs_congr h]
  have h4 : insideB (notS S) = insideB (notS T) := by
    unfold insideB rangesS
    rw [runs_congr (p := has (notS S)) (q := has (notS T)) (fun b hb => by rw [has_not hS, has_not hT, h b hb])]
  unfold textB
  rw [h1, h2, h3, h4]
theorem texts_eq {S T : Nat → Nat} (hS : okS S) (hT : okS T) : ((⟨(textB S).toArray⟩ : ByteArray).toList == (⟨(textB T).toArray⟩ : ByteArray).toList) = (((S 0 : Int) == (T 0 : Int)) && (((S 1 : Int) == (T 1 : Int)) && (((S 2 : Int) == (T 2 : Int)) && ((S 3 : Int) == (T 3 : Int))))) := by
  rw [list_mk, list_mk]
  by_cases h : textB S = textB T
  · have hh := text_inj hS hT h
    rw [h, set_word hh hS hT 0 (by omega), set_word hh hS hT 1 (by omega), set_word hh hS hT 2 (by omega), set_word hh hS hT 3 (by omega)]
    simp
  · rw [show (textB S == textB T) = false from by simpa using h]
    symm
    cases hc : (((S 0 : Int) == (T 0 : Int)) && (((S 1 : Int) == (T 1 : Int)) && (((S 2 : Int) == (T 2 : Int)) && ((S 3 : Int) == (T 3 : Int))))) with
    | false => rfl
    | true =>
      refine absurd ?_ h
      simp only [Bool.and_eq_true, beq_iff_eq] at hc
      obtain ⟨e0, e1, e2, e3⟩ := hc
      refine text_congr hS hT fun b hb => ?_
      have hw : ∀ q, q < 4 → S q = T q := fun q hq => by
        rcases (by omega : q = 0 ∨ q = 1 ∨ q = 2 ∨ q = 3) with r | r | r | r <;> subst r <;> omega
      unfold has
      rw [hw (b / 64) (by omega)]
theorem escs_eq {x y : Nat} (hx : x < 256) (hy : y < 256) : ((⟨(escB x).toArray⟩ : ByteArray).toList == (⟨(escB y).toArray⟩ : ByteArray).toList) = ((x : Int) == (y : Int)) := by
  rw [list_mk, list_mk]
  by_cases h : x = y
  · rw [h]; simp
  · rw [show (escB x == escB y) = false from by simpa using fun e => h (esc_inj hx hy e), show ((x : Int) == (y : Int)) = false from by simp; omega]
attribute [local irreducible] Calls
set_option maxHeartbeats 4000000 in
set_option maxRecDepth 100000 in
theorem texts_c (S T : Nat → Nat) (x y : Nat) (hS : okS S) (hT : okS T) (hx : x < 256) (hy : y < 256) (w : World) (hTab : TabAt 0 Lib.deBruijn64tab w) : Calls Tryd.prog 5 #[setV S, setV T, .int .u8 x, .int .u8 y] w fun e w' => e = .returned (.bool true) ∧ Below w.heap.size w w' := by
  have TS := fun (z : World) (h : Below w.heap.size w z) => text_c S hS z (TabAt.below hTab h)
  have TT := fun (z : World) (h : Below w.heap.size w z) => text_c T hT z (TabAt.below hTab h)
  have TO := fun (z : World) (h : Below w.heap.size w z) => text_is (one_ok x) (text_one x hx) z (TabAt.below hTab h)
  have AW := fun (z : World) (h : Below w.heap.size w z) => awake_c z (TabAt.below hTab h)
  have EX := esc_c x hx
  have EY := esc_c y hy
  have OX := one_c x hx
  have TE := texts_eq hS hT
  have EE := escs_eq hx hy
  have SE := fun (w : World) => set_eql (S 0) (S 1) (S 2) (S 3) (T 0) (T 1) (T 2) (T 3) w
  unfold setV at *
  generalize oneS x = X1 at *
  have Z1 := Blk.alloc (Blk.made w 24 #[.int .u64 (S 0), .int .u64 (S 1), .int .u64 (S 2), .int .u64 (S 3)]) (.cells #[.int .u64 (T 0), .int .u64 (T 1), .int .u64 (T 2), .int .u64 (T 3)] 24)
  have Z2 := Blk.made (w.alloc (.cells #[.int .u64 (S 0), .int .u64 (S 1), .int .u64 (S 2), .int .u64 (S 3)] 24)) 24 #[.int .u64 (T 0), .int .u64 (T 1), .int .u64 (T 2), .int .u64 (T 3)]
  rw [show (w.alloc (.cells #[.int .u64 (S 0), .int .u64 (S 1), .int .u64 (S 2), .int .u64 (S 3)] 24)).heap.size = w.heap.size + 1 from by simp] at Z2
  have ZW := below_alloc (below_alloc (Below.refl w.heap.size w) (.cells #[.int .u64 (S 0), .int .u64 (S 1), .int .u64 (S 2), .int .u64 (S 3)] 24)) (.cells #[.int .u64 (T 0), .int .u64 (T 1), .int .u64 (T 2), .int .u64 (T 3)] 24)
  have TS' := Lib.hid TS
  have TT' := Lib.hid TT
  have TO' := Lib.hid TO
  have AW' := Lib.hid AW
  have EX' := Lib.hid EX
  have EY' := Lib.hid EY
  have OX' := Lib.hid OX
  clear TS TT TO AW EX EY OX hTab
  go_enter Tryd.func5, Tryd.ntmps5

  go_upto_region 1 with fail
  generalize (w.alloc _).alloc _ = wz at Z1 Z2 ZW
  have c0 : ∀ x : Ext wz, x.v.cell? ⟨w.heap.size, 0, none⟩ = some (.int .u64 (S 0)) := fun x => Z1.ext x 0
  have c1 : ∀ x : Ext wz, x.v.cell? ⟨w.heap.size, 1, none⟩ = some (.int .u64 (S 1)) := fun x => Z1.ext x 1
  have c2 : ∀ x : Ext wz, x.v.cell? ⟨w.heap.size, 2, none⟩ = some (.int .u64 (S 2)) := fun x => Z1.ext x 2
  have c3 : ∀ x : Ext wz, x.v.cell? ⟨w.heap.size, 3, none⟩ = some (.int .u64 (S 3)) := fun x => Z1.ext x 3
  have d0 : ∀ x : Ext wz, x.v.cell? ⟨w.heap.size + 1, 0, none⟩ = some (.int .u64 (T 0)) := fun x => Z2.ext x 0
  have d1 : ∀ x : Ext wz, x.v.cell? ⟨w.heap.size + 1, 1, none⟩ = some (.int .u64 (T 1)) := fun x => Z2.ext x 1
  have d2 : ∀ x : Ext wz, x.v.cell? ⟨w.heap.size + 1, 2, none⟩ = some (.int .u64 (T 2)) := fun x => Z2.ext x 2
  have d3 : ∀ x : Ext wz, x.v.cell? ⟨w.heap.size + 1, 3, none⟩ = some (.int .u64 (T 3)) := fun x => Z2.ext x 3
  have HZ := Lib.hid ZW
  have HZ1 := Lib.hid Z1
  have HZ2 := Lib.hid Z2
  clear Z1 Z2 ZW
  generalize hta : (⟨(textB S).toArray⟩ : ByteArray) = TA at *
  generalize htb : (⟨(textB T).toArray⟩ : ByteArray) = TB at *
  generalize hea : (⟨(escB x).toArray⟩ : ByteArray) = EA at *
  generalize heb : (⟨(escB y).toArray⟩ : ByteArray) = EB at *
  have HTA := Lib.hid hta
  have HTB := Lib.hid htb
  have HEA := Lib.hid hea
  have HEB := Lib.hid heb
  clear hta htb hea heb
  generalize (((S 0 : Int) == (T 0 : Int)) && (((S 1 : Int) == (T 1 : Int)) && (((S 2 : Int) == (T 2 : Int)) && ((S 3 : Int) == (T 3 : Int))))) = p at TE SE
  obtain ⟨r, ES, EF⟩ : ∃ r, ((x : Int) == (y : Int)) = r ∧ (EA.toList == EB.toList) = r := ⟨_, rfl, EE⟩
  clear EE
  refine wp_region_ext (by kernel_rfl) (by kernel_rfl) ?_
  repeat (go_big_quiet_step (first | (go_at_call 16; first | exact Calls.ext_of (TS'.out _ (below_ext HZ.out _)) | exact Calls.ext_of (TT'.out _ (below_ext HZ.out _)) | exact Calls.ext_of (TO'.out _ (below_ext HZ.out _))) | (go_at_call 18; first | exact Calls.ext_of (EX'.out _) | exact Calls.ext_of (EY'.out _)) | (go_at_call 22; first | exact Calls.ext_of (OX'.out _)) | exact Calls.ext_of (AW'.out _ (below_ext HZ.out _))))
  refine wpQuiet_nil ?_
  intro _ hw'
  obtain ⟨xq, hw''⟩ := hw'
  subst hw''
  go_wp2
  go_ret
  exact ⟨rfl, below_ext HZ.out xq⟩
end Go.Proofs.YtgcbcmgadllhlaaDoor
