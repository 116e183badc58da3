/- The walk of RulesFirst. -/
import Derived.Test.YtokfcndhmbkelaaRuPure
namespace Go.Proofs.Ytokfcndhmbkelaa
open Go.RowKit
set_option maxHeartbeats 4000000 in
set_option maxRecDepth 100000 in
theorem rulesFirst_c (l r : List UInt8) (hl : l.length ≤ 140737488351232) (hr : r.length ≤ 140737488351232) (w : World) : Calls Try.prog 5 #[str l, str r] w fun e w' => e = .returned (.bool true) ∧ Below w.heap.size w w' := by
  have hs := mk_size l
  have hs2 := mk_size r
  have hg := mk_get l
  have AW := Lib.hid awake_c
  have SC := Lib.hid (fun (h : l.length ≤ 1000000) w1 => split_c l h w1)
  have SC2 := Lib.hid (fun n (h : (l.take n ++ r).length ≤ 1000000) w1 => split_c (l.take n ++ r) h w1)
  have SE := Lib.hid (fun n => show (ByteArray.mk l.toArray).extract 0 n ++ ⟨r.toArray⟩ = ⟨(l.take n ++ r).toArray⟩ by rw [mk_extract, List.drop_zero, Nat.sub_zero, mk_app])
  unfold str at *
  generalize (ByteArray.mk l.toArray) = s at *
  generalize (ByteArray.mk r.toArray) = s2 at *
  have HS := Lib.hid hs
  have HS2 := Lib.hid hs2
  have HG := Lib.hid hg
  have z1 : s.size ≤ 140737488351232 := by rw [hs]; exact hl
  have z2 : s2.size ≤ 140737488351232 := by rw [hs2]; exact hr
  clear hs hs2 hg
  by_cases hbig : 1000 < s.size + s2.size
  · have t1 : decide ((1000 : Int) < (s.size : Nat) + (s2.size : Nat)) = true := by simp; omega
    clear hbig
    go_enter Try.func5, Try.ntmps5
    go_wp2_with fail
    refine (AW.out _).mono ?_; rintro e w1 ⟨rfl, b1⟩
    have B1 := Lib.hid b1
    clear b1
    go_wp2_with fail
    refine (AW.out _).mono ?_; rintro e w2 ⟨rfl, b2⟩
    have B2 := Lib.hid (below_step B1.out b2)
    clear b2
    go_wp2_with fail
    go_returns
    exact ⟨rfl, B2.out⟩
  · have hlm : l.length ≤ 1000000 := by have := HS.out; omega
    have hsum : l.length + r.length ≤ 1000 := by have := HS.out; have := HS2.out; omega
    have t1 : decide ((1000 : Int) < (s.size : Nat) + (s2.size : Nat)) = false := by simp; omega
    clear hbig
    go_enter Try.func5, Try.ntmps5
    go_wp2_with fail
    refine (AW.out _).mono ?_; rintro e w1 ⟨rfl, b1⟩
    have B1 := Lib.hid b1
    clear b1
    go_wp2_with fail
    refine (SC.out hlm _).mono ?_; rintro e w2 ⟨v1, n1, k1, rfl, hr1, b2⟩
    have B2 := Lib.hid (below_step B1.out b2)
    clear b2
    cases hsp : splitB l with
    | ok ls =>
      rw [hsp] at hr1
      obtain ⟨_, rfl, rfl⟩ := hr1
      go_wp2_with fail
      go_returns
      exact ⟨rfl, B2.out⟩
    | error k =>
      rw [hsp] at hr1
      obtain ⟨rfl, rfl, rfl⟩ := hr1
      by_cases hk : s.size ≤ k
      · have t2 : decide (s.size ≤ k) = true := by simp; omega
        clear hk hsp SC2
        go_wp2_with fail
        go_returns
        exact ⟨rfl, B2.out⟩
      · have t2 : decide (s.size ≤ k) = false := by simp; omega
        have hkl : k < l.length := by have := HS.out; omega
        have SF := Lib.hid (fun (he : endN l k < l.length) => split_first (more := r) hsp hkl he hsum)
        have hsm : s.size ≤ 1000 := by have := HS.out; omega
        have hsm2 : s2.size ≤ 1000 := by have := HS2.out; omega
        have EL := Lib.hid (endN_le (Nat.le_of_lt hkl))
        clear hk hsp
        go_upto_block 0 with fail
        go_cut [8] from 38 to 49 (fun i wx => i = .int .i64 (endN l k : Nat) ∧ wx = w2)
        case first =>
          go_wp2_with fail
          go_loop [8] (fun i => ∃ j : Nat, j ≤ l.length ∧ i = .int .i64 j ∧ endN l k = endN l j) (fun i => l.length - (intOf i).toNat)
          case atStart => exact ⟨k, by omega, rfl, rfl⟩
          case round =>
            obtain ⟨j, hj, rfl, hjr⟩ := hrel
            have HR := Lib.hid hjr
            have hss := HS.out
            clear hjr
            by_cases hlt : j < l.length
            · have h2 : j < s.size := by omega
              have e1 := HG.out j h2
              have t3 : decide (j < s.size) = true := by simp; omega
              by_cases h10 : nth l j = 10
              · have t4 : ((nth l j : Int) != 10) = false := by simp; omega
                have HX := Lib.hid (endN_stop (.inr ⟨hlt, h10⟩))
                clear h10 hss
                go_wp2_with fail
                go_meet
                case rel => exact ⟨by rw [HR.out, HX.out], rfl⟩
              · have t4 : ((nth l j : Int) != 10) = true := by simp; omega
                have HX := Lib.hid (endN_step hlt h10)
                clear h10 hss
                go_wp2_with fail
                go_round
                case rel => exact ⟨j + 1, by omega, by go_num, by rw [HR.out, HX.out]⟩
                case measure => simp [intOf]; omega
            · have t3 : decide (j < s.size) = false := by simp; omega
              have HX := Lib.hid (endN_stop (l := l) (a := j) (.inl (by omega)))
              clear hss
              go_wp2_with fail
              go_meet
              case rel => exact ⟨by rw [HR.out, HX.out], rfl⟩
        case rest =>
          obtain ⟨rfl, rfl⟩ := hcut
          by_cases he : endN l k < l.length
          · have SX := Lib.hid (SF.out he)
            have hsl : (l.take (endN l k + 1) ++ r).length ≤ 1000000 := by rw [List.length_append, List.length_take]; omega
            have SD := Lib.hid (SC2.out _ hsl)
            have SE' := SE.out (endN l k + 1)
            rw [SX.out, ← SE'] at SD
            have hss := HS.out
            generalize endN l k = E at *
            have t3 : ((E : Int) == (s.size : Nat)) = false := by rw [beq_eq_false_iff_ne]; omega
            have f1 : (E : Int) + 1 ≤ (s.size : Nat) := by omega
            have f2 : (0 : Int) ≤ (E : Int) + 1 := by omega
            have f3 : ((E : Int) + 1).toNat = E + 1 := by omega
            have f4 : (s.extract 0 (E + 1)).size ≤ 1000 := by rw [ByteArray.size_extract]; omega
            clear SF SC SC2 SE he hss SE' SX
            go_wp2_with fail
            refine (SD.out _).mono ?_; rintro e w3 ⟨v3, n3, k3, rfl, ⟨rfl, rfl, rfl⟩, b3⟩
            have B3 := Lib.hid (below_step B2.out b3)
            clear b3
            go_wp2_with fail
            go_returns
            exact ⟨rfl, B3.out⟩
          · have ee : endN l k = s.size := by have := EL.out.2; have := HS.out; omega
            have t3 : ((endN l k : Int) == (s.size : Nat)) = true := by rw [ee, beq_self_eq_true]
            clear ee he
            go_wp2_with fail
            go_returns
            exact ⟨rfl, B2.out⟩
end Go.Proofs.Ytokfcndhmbkelaa
