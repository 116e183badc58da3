/- The walk of the reference's rule. -/
import Derived.Test.YtokfcndhmbkelaaRuSplit
import Derived.Deep.CutBlock
import Derived.BigRegion
import Derived.Handy
namespace Go.Proofs.Ytokfcndhmbkelaa
open Go.RowKit
theorem nth_line {l : List UInt8} {a n k : Nat} (h : k < n) : nth ((l.drop a).take n) k = nth l (a + k) := by
  unfold nth
  rw [List.getD_eq_getElem?_getD, List.getD_eq_getElem?_getD, List.getElem?_take_of_lt h, List.getElem?_drop]
theorem line_len {l : List UInt8} {a t : Nat} (h : t ≤ l.length) : ((l.drop a).take (t - a)).length = t - a := by
  rw [List.length_take, List.length_drop]; omega
/-- What rule answers: of a line, and where it begins. -/
def ruleV (ln : List UInt8) (a : Nat) : Value × Int :=
  if badB ln = true then (.agg #[.string ⟨#[]⟩, .string ⟨#[]⟩, .int .i64 0], ((a + headN 12 ln : Nat) : Int)) else (.agg #[str (lnOf ln a).name, str (lnOf ln a).text, .int .i64 (lnOf ln a).at_], -1)
set_option maxHeartbeats 2000000 in
set_option maxRecDepth 100000 in
theorem rule_c (l : List UInt8) (hl : l.length ≤ 1000000) (a t : Nat) (hat : a ≤ t) (htl : t ≤ l.length) (w : World) : Calls Try.prog 20 #[str l, .int .i64 a, .int .i64 t] w fun e w' => e = .returned (.tuple #[(ruleV ((l.drop a).take (t - a)) a).1, .int .i64 (ruleV ((l.drop a).take (t - a)) a).2]) ∧ Below w.heap.size w w' := by
  obtain ⟨ln, hln⟩ : ∃ ln, ln = (l.drop a).take (t - a) := ⟨_, rfl⟩
  rw [← hln]
  have hll : ln.length = t - a := by rw [hln]; exact line_len htl
  have hnl : ∀ k, k < t - a → nth ln k = nth l (a + k) := fun k hk => by rw [hln]; exact nth_line hk
  obtain ⟨hn12, hnle⟩ := headN_le 12 ln
  have hs := mk_size l
  have hg := mk_get l
  have E1 := Lib.hid (show (ByteArray.mk l.toArray).extract a (a + headN 12 ln) = ⟨(ln.take (headN 12 ln)).toArray⟩ by
    rw [mk_extract, hln, List.take_take]; congr 2; rw [← hln]; congr 1; omega)
  have E2 := Lib.hid (show (ByteArray.mk l.toArray).extract (a + headN 12 ln + 1) t = ⟨(ln.drop (headN 12 ln + 1)).toArray⟩ by
    rw [mk_extract, hln, List.drop_take, List.drop_drop]; congr 2; rw [← hln]; congr 1; omega)
  unfold str
  generalize (ByteArray.mk l.toArray) = s at *
  have HG := Lib.hid hg
  have HS := Lib.hid hs
  have HL := Lib.hid hll
  have HN := Lib.hid hnl
  have hsm : s.size ≤ 1000000 := by omega
  have hts : t ≤ s.size := by omega
  clear hg hs hll hnl hln
  go_enter Try.func20, Try.ntmps20
  go_upto_block 0 with fail
  go_cut [8] from 10 to 26 (fun i wx => i = .int .i64 ((a + headN 12 ln : Nat) : Int) ∧ wx = w.alloc (.cells #[.string ⟨#[]⟩, .string ⟨#[]⟩, .int .i64 0] 32))
  case first =>
    go_wp2_with fail
    go_loop [8] (fun i => ∃ j : Nat, a ≤ j ∧ j ≤ t ∧ j - a ≤ 12 ∧ i = .int .i64 j ∧ headN 12 ln = (j - a) + headN (12 - (j - a)) (ln.drop (j - a))) (fun i => a + 12 - (intOf i).toNat)
    case atStart => exact ⟨a, by omega, by omega, by omega, rfl, by simp⟩
    case round =>
      obtain ⟨j, haj, hjt, hj12, rfl, hr⟩ := hrel
      have HR := Lib.hid hr
      clear hr
      by_cases hlt : j < t
      · have h2 : j < s.size := by omega
        have e1 := HG.out j h2
        have hnn := HN.out (j - a) (by omega)
        rw [show a + (j - a) = j from by omega] at hnn
        have t1 : decide (j < t) = true := by simp; omega
        have LC := Lib.hid (fun w1 => rletter_c (nth l j) w1)
        cases hb : letB (nth l j) with
        | true =>
          by_cases h12 : j - a < 12
          · have t2 : decide ((j : Int) - a < 12) = true := by simp; omega
            have HX := Lib.hid (headN_step ln 12 (j - a) h12 (by have := HL.out; omega) (by rw [hnn]; exact hb))
            clear hnn
            go_wp2_with fail
            refine (LC.out _).mono ?_; rintro e w1 ⟨rfl, rfl⟩
            rw [hb]
            clear e1 hb
            go_wp2_with fail
            go_round
            case rel => exact ⟨j + 1, by omega, by omega, by omega, by go_num, by rw [HR.out, HX.out, show j + 1 - a = j - a + 1 from by omega]; omega⟩
            case measure => simp [intOf]; omega
          · have t2 : decide ((j : Int) - a < 12) = false := by simp; omega
            have HX := Lib.hid (headN_stop ln 12 (j - a) (.inl (by omega)))
            clear hnn
            go_wp2_with fail
            refine (LC.out _).mono ?_; rintro e w1 ⟨rfl, rfl⟩
            rw [hb]
            clear e1 hb
            go_wp2_with fail
            go_meet
            case rel => exact ⟨by have := HR.out; rw [HX.out] at this; rw [this]; congr 1; omega, rfl⟩
        | false =>
          have HX := Lib.hid (headN_stop ln 12 (j - a) (.inr (.inr ⟨by have := HL.out; omega, by rw [hnn]; exact hb⟩)))
          clear hnn
          go_wp2_with fail
          refine (LC.out _).mono ?_; rintro e w1 ⟨rfl, rfl⟩
          rw [hb]
          clear e1 hb
          go_wp2_with fail
          go_meet
          case rel => exact ⟨by have := HR.out; rw [HX.out] at this; rw [this]; congr 1; omega, rfl⟩
      · have HX := Lib.hid (headN_stop ln 12 (j - a) (.inr (.inl (by have := HL.out; omega))))
        have t1 : decide (j < t) = false := by simp; omega
        go_wp2_with fail
        go_meet
        case rel => exact ⟨by have := HR.out; rw [HX.out] at this; rw [this]; congr 1; omega, rfl⟩
  case rest =>
    obtain ⟨rfl, rfl⟩ := hcut
    have XB := Lib.hid (fun (hb : badB ln = true) => show ruleV ln a = (.agg #[.string ⟨#[]⟩, .string ⟨#[]⟩, .int .i64 0], ((a + headN 12 ln : Nat) : Int)) by unfold ruleV; rw [if_pos hb])
    have XG := Lib.hid (fun (hb : ¬ badB ln = true) => show ruleV ln a = (.agg #[.string ⟨(ln.take (headN 12 ln)).toArray⟩, .string ⟨(ln.drop (headN 12 ln + 1)).toArray⟩, .int .i64 ((a + headN 12 ln + 1 : Nat) : Int)], -1) by unfold ruleV; rw [if_neg hb]; rfl)
    rw [← E1.out, ← E2.out] at XG
    have hnn := HN.out (headN 12 ln)
    have hll := HL.out
    have hbad : badB ln = (headN 12 ln == 0 || (headN 12 ln == ln.length || nth ln (headN 12 ln) != 58)) := rfl
    have hpa : headN 12 ln = (a + headN 12 ln) - a := by omega
    obtain ⟨p, hp⟩ : ∃ p, p = a + headN 12 ln := ⟨_, rfl⟩
    rw [← hp] at XB XG hnn hpa ⊢
    by_cases hpt : p = t
    · have t1 : ((p : Int) == (t : Nat)) = true := by rw [hpt, beq_self_eq_true]
      have XX := Lib.hid (XB.out (by rw [hbad, show (headN 12 ln == ln.length) = true from by simp; omega]; simp))
      clear hpt hp hpa hbad hnn hll E1 E2
      go_wp2_with fail
      go_returns
      refine ⟨by rw [XX.out], ?_⟩
      exact (Below.refl _ _).alloc (Nat.le_refl _) _
    · have t1 : ((p : Int) == (t : Nat)) = false := by rw [beq_eq_false_iff_ne]; omega
      have hps : p < s.size := by omega
      have e1 := HG.out p hps
      have hnn := hnn (by omega)
      by_cases h58 : nth l p = 58
      · have t2 : ((nth l p : Int) != 58) = false := by rw [h58]; rfl
        by_cases hp0 : p = a
        · have t3 : ((p : Int) == (a : Nat)) = true := by rw [hp0, beq_self_eq_true]
          have XX := Lib.hid (XB.out (by rw [hbad, show (headN 12 ln == 0) = true from by simp; omega]; simp))
          clear hpt hp hpa hbad hnn hll E1 E2 h58 hp0
          go_wp2_with fail
          go_returns
          refine ⟨by rw [XX.out], ?_⟩
          exact (Below.refl _ _).alloc (Nat.le_refl _) _
        · have t3 : ((p : Int) == (a : Nat)) = false := by rw [beq_eq_false_iff_ne]; omega
          have XX := Lib.hid (XG.out (by rw [hbad, hnn, h58, show (headN 12 ln == 0) = false from by simp; omega, show (headN 12 ln == ln.length) = false from by simp; omega]; simp))
          have f1 : (a : Int) ≤ (p : Nat) := by omega
          have f2 : (p : Int) + 1 ≤ (t : Nat) := by omega
          have f3 : (p : Int) ≤ (s.size : Nat) := by omega
          have f4 : (t : Int) ≤ (s.size : Nat) := by omega
          have f5 : (0 : Int) ≤ (p : Int) + 1 := by omega
          have f6 : (0 : Int) ≤ (a : Int) := by omega
          have f7 : IntKind.i64.wrap ((p : Int) + 1) = (p : Int) + 1 := wrapSmall (by omega) (by omega)
          have f8 : ((p : Int) + 1).toNat = p + 1 := by omega
          clear hpt hp hpa hbad hnn hll E1 E2 h58 hp0
          go_wp2_with fail
          go_region
          go_wp2_with fail
          go_returns
          exact ⟨by rw [XX.out]; rfl, below_draws ((Below.refl _ _).alloc (Nat.le_refl _) _) 1⟩
      · have t2 : ((nth l p : Int) != 58) = true := by rw [bne_iff_ne]; omega
        have XX := Lib.hid (XB.out (by rw [hbad, hnn, show (nth l p != 58) = true from by simpa using h58]; simp))
        clear hpt hp hpa hbad hnn hll E1 E2 h58
        go_wp2_with fail
        go_returns
        refine ⟨by rw [XX.out], ?_⟩
        exact (Below.refl _ _).alloc (Nat.le_refl _) _
end Go.Proofs.Ytokfcndhmbkelaa
