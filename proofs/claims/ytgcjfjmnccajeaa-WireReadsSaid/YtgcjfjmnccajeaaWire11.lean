/- The wire's writer: numbers; what it has written. -/
import Derived.Test.YtgcjfjmnccajeaaBldW
import Derived.Test.YtgcjfjmnccajeaaWire1
import Derived.Test.YtgcjfjmnccajeaaWirePure2
namespace Go.Proofs.Ytgcjfjmnccajeaa
open Go.RowKit
theorem encF_len : ∀ f n, (encF f n).length ≤ f + 1
  | 0, _ => Nat.le_refl _
  | f + 1, n => by
    unfold encF
    split
    · simp
    · have := encF_len f (n / 128); simp; omega
theorem encN_len (n : Nat) : (encN n).length ≤ 11 := encF_len 10 n
theorem encN_big {m : Nat} (h : 128 ≤ m) (hm : m ≤ most) : encN m = (m % 128 + 128).toUInt8 :: encN (m / 128) := by
  unfold most at hm
  show encF 10 m = _ :: encF 10 (m / 128)
  rw [encF_fuel 10 9 (m / 128) (by omega) (by omega)]
  show (if m < 128 then _ else _) = _
  rw [if_neg (by omega)]
theorem encN_small {m : Nat} (h : m < 128) : encN m = [m.toUInt8] := by
  show (if m < 128 then _ else _) = _
  rw [if_pos h]
/-- What a number adds; whether it is bad. -/
def numW (n : Int) (l : List UInt8) (bad : Bool) : List UInt8 × Bool := if 0 ≤ n ∧ n ≤ most then (l ++ encN n.toNat, bad) else (l, true)
theorem or_high : ∀ c, c < 256 → bits BinOp.or IntKind.u8 ((c : Nat) : Int) 128 = ((c % 128 + 128 : Nat) : Int) := by decide +kernel
theorem cells_snoc (l : List UInt8) (c : UInt8) : Lib.byteCells (l ++ [c]) = Lib.byteCells l ++ [.int .u8 c.toNat] := by rw [Lib.byteCells_append]; rfl
theorem u8wrap (m : Nat) : IntKind.u8.wrap (m : Int) = ((m % 256 : Nat) : Int) := by rw [IntKind.wrap_u8]; omega
set_option maxHeartbeats 2000000 in
set_option maxRecDepth 100000 in
theorem wnum_bad (P : Nat → Prop) (b : Nat) (bad : Bool) (l : List UInt8) (n : Int) (hn : ¬ (0 ≤ n ∧ n ≤ most)) (w : World) (h : Bld P b (.bool bad) (Lib.byteCells l) w) : Calls Try.prog 20 #[.pointer (some ⟨b, 0, none⟩), .int .i64 n] w fun e w' =>
    e = .returned (.tuple #[]) ∧ Bld P b (.bool (numW n l bad).2) (Lib.byteCells (numW n l bad).1) w' ∧ Keep P w w' := by
  have c2 := h.cell2
  have f2 := h.free 2
  have HB := Lib.hid h
  have N := Lib.hid (show numW n l bad = (l, true) from if_neg hn)
  clear h
  by_cases h0 : n < 0
  · have t1 : decide (n < 0) = true := by simp; omega
    clear hn h0
    go_enter Try.func20, Try.ntmps20
    go_wp2_with fail
    go_returns
    rw [N.out]
    exact ⟨rfl, HB.out.set2 _, (Keep.refl P w).set (p := ⟨b, 2, none⟩) HB.out.nP _⟩
  · have t1 : decide (n < 0) = false := by simp; omega
    have t2 : decide ((1099511627776 : Int) < n) = true := by unfold most at hn; simp; omega
    clear hn h0
    go_enter Try.func20, Try.ntmps20
    go_wp2_with fail
    go_returns
    rw [N.out]
    exact ⟨rfl, HB.out.set2 _, (Keep.refl P w).set (p := ⟨b, 2, none⟩) HB.out.nP _⟩
set_option maxHeartbeats 2000000 in
set_option maxRecDepth 100000 in
theorem wnum_ok (P : Nat → Prop) (b : Nat) (x : Value) (l : List UInt8) (n : Nat) (hn : n ≤ most) (w : World) (h : Bld P b x (Lib.byteCells l) w) (hlen : l.length ≤ 1000000) (hP : ∀ k, P k → k < w.heap.size) : Calls Try.prog 20 #[.pointer (some ⟨b, 0, none⟩), .int .i64 n] w fun e w' =>
    e = .returned (.tuple #[]) ∧ Bld P b x (Lib.byteCells (l ++ encN n)) w' ∧ Keep P w w' := by
  have t2 : decide ((1099511627776 : Int) < (n : Int)) = false := by unfold most at hn; simp; omega
  have HB := Lib.hid h
  have HP := Lib.hid hP
  have hel := encN_len n
  have HN := Lib.hid hn
  have hn2 : n ≤ 1099511627776 := hn
  clear h hP hn
  go_enter Try.func20, Try.ntmps20
  go_wp2_with fail
  go_loopw [1] (fun v1 wr => ∃ (m : Nat) (acc : List UInt8), m ≤ n ∧ v1 = .int .i64 m ∧ acc ++ encN m = l ++ encN n ∧ Bld P b x (Lib.byteCells acc) wr ∧ Keep P w wr) (fun v1 _ => (intOf v1).toNat)
  case atStart => exact ⟨n, l, Nat.le_refl _, rfl, rfl, HB.out, Keep.refl _ _⟩
  case round =>
    obtain ⟨m, acc, hm, rfl, heq, hb, hk⟩ := hrel
    have hal : acc.length ≤ 1000011 := by have := congrArg List.length heq; simp at this; omega
    have HE := Lib.hid heq
    have HBB := Lib.hid hb
    have HK := Lib.hid hk
    have hPr : ∀ k, P k → k < wr.heap.size := fun k hk' => Nat.lt_of_lt_of_le (HP.out k hk') hk.size
    have HPR := Lib.hid hPr
    clear heq hb hk hPr
    have U := u8wrap m
    by_cases h128 : 128 ≤ m
    · have t3 : decide ((128 : Int) ≤ (m : Int)) = true := by simp; omega
      obtain ⟨c, hc⟩ : ∃ c, c = m % 128 + 128 := ⟨_, rfl⟩
      have O : bits BinOp.or IntKind.u8 ((m : Int) % 256) 128 = (c : Nat) := by
        have := or_high (m % 256) (by omega)
        rw [show m % 256 % 128 + 128 = c from by omega] at this
        rw [← this]; rfl
      have hc2 : c.toUInt8.toNat = c := u8_toNat (by omega)
      have EB := Lib.hid (show encN m = c.toUInt8 :: encN (m / 128) from by rw [hc]; exact encN_big h128 (Nat.le_trans hm HN.out))
      have ES := Lib.hid (show Lib.byteCells (acc ++ [c.toUInt8]) = Lib.byteCells acc ++ [.int .u8 c] from by rw [cells_snoc, hc2])
      have WBC := Lib.hid (writeB_c P b x (Lib.byteCells acc) (c : Nat) wr HBB.out (by rw [Lib.byteCells_length]; omega) HPR.out)
      clear hc hc2
      go_wp2_with fail
      refine WBC.out.mono ?_; rintro e w1 ⟨rfl, h1, h2⟩
      have H1 := Lib.hid h1
      have H2 := Lib.hid (HK.out.trans h2)
      clear h1 h2
      go_wp2_with fail
      go_roundw
      case rel => exact ⟨m / 128, acc ++ [c.toUInt8], by omega, rfl, by rw [← HE.out, EB.out, List.append_assoc]; rfl, by rw [ES.out]; exact H1.out, H2.out⟩
      case measure => simp [intOf]; omega
    · have t3 : decide ((128 : Int) ≤ (m : Int)) = false := by simp; omega
      have U2 : IntKind.u8.wrap (m : Int) = m := by rw [U]; omega
      have hm2 : m.toUInt8.toNat = m := u8_toNat (by omega)
      have ES := Lib.hid (show Lib.byteCells (l ++ encN n) = Lib.byteCells acc ++ [.int .u8 m] from by rw [← HE.out, encN_small (by omega), cells_snoc, hm2])
      have WBC := Lib.hid (writeB_c P b x (Lib.byteCells acc) (m : Nat) wr HBB.out (by rw [Lib.byteCells_length]; omega) HPR.out)
      clear U hm2
      go_wp2_with fail
      refine WBC.out.mono ?_; rintro e w1 ⟨rfl, h1, h2⟩
      go_wp2_with fail
      go_end0
      rw [ES.out]
      exact ⟨rfl, h1, HK.out.trans h2⟩
theorem wnum_c (P : Nat → Prop) (b : Nat) (bad : Bool) (l : List UInt8) (n : Int) (w : World) (h : Bld P b (.bool bad) (Lib.byteCells l) w) (hlen : l.length ≤ 1000000) (hP : ∀ k, P k → k < w.heap.size) : Calls Try.prog 20 #[.pointer (some ⟨b, 0, none⟩), .int .i64 n] w fun e w' =>
    e = .returned (.tuple #[]) ∧ Bld P b (.bool (numW n l bad).2) (Lib.byteCells (numW n l bad).1) w' ∧ Keep P w w' := by
  by_cases hn : 0 ≤ n ∧ n ≤ most
  · obtain ⟨m, rfl⟩ : ∃ m : Nat, n = m := ⟨n.toNat, by omega⟩
    rw [show numW m l bad = (l ++ encN m, bad) from by unfold numW; rw [if_pos hn]; rfl]
    exact wnum_ok P b (.bool bad) l m (by omega) w h hlen hP
  · exact wnum_bad P b bad l n hn w h
/-- What done answers. -/
def doneE (l : List UInt8) (bad : Bool) : Ending := if bad = true then .returned (.tuple #[str [], .int .i64 1]) else .returned (.tuple #[str l, .int .i64 0])
set_option maxHeartbeats 2000000 in
set_option maxRecDepth 100000 in
theorem done_c (B : Nat) (P : Nat → Prop) (b : Nat) (bad : Bool) (l : List UInt8) (w : World) (h : Bld P b (.bool bad) (Lib.byteCells l) w) (h0 : l ≠ []) (hB : ∀ k, k < B → P k) : Calls Try.prog 22 #[.pointer (some ⟨b, 0, none⟩)] w fun e w' =>
    e = doneE l bad ∧ Below B w w' := by
  have SC := Lib.hid (string_c B P b (.bool bad) l w h h0 hB)
  have c2 := h.cell2
  have D := Lib.hid (doneE.eq_1 l bad)
  clear h
  unfold str at D
  cases bad with
  | true =>
    go_enter Try.func22, Try.ntmps22
    go_wp2_with fail
    go_returns
    exact ⟨D.out.symm, Below.refl _ _⟩
  | false =>
    go_enter Try.func22, Try.ntmps22
    go_wp2_with fail
    refine SC.out.mono ?_; rintro e w1 ⟨rfl, h2⟩
    go_wp2_with fail
    go_returns
    exact ⟨D.out.symm, h2⟩
theorem done_ok (B : Nat) (P : Nat → Prop) (b : Nat) (l : List UInt8) (w : World) (h : Bld P b (.bool false) (Lib.byteCells l) w) (h0 : l ≠ []) (hB : ∀ k, k < B → P k) : Calls Try.prog 22 #[.pointer (some ⟨b, 0, none⟩)] w fun e w' =>
    e = .returned (.tuple #[.string ⟨l.toArray⟩, .int .i64 0]) ∧ Below B w w' := done_c B P b false l w h h0 hB
theorem done_no (B : Nat) (P : Nat → Prop) (b : Nat) (l : List UInt8) (w : World) (h : Bld P b (.bool true) (Lib.byteCells l) w) (h0 : l ≠ []) (hB : ∀ k, k < B → P k) : Calls Try.prog 22 #[.pointer (some ⟨b, 0, none⟩)] w fun e w' =>
    e = .returned (.tuple #[.string ⟨[].toArray⟩, .int .i64 1]) ∧ Below B w w' := done_c B P b true l w h h0 hB
end Go.Proofs.Ytgcjfjmnccajeaa
