/- Lines: cut off at the next end. -/
import Derived.Test.YtokfcndhmbkelaaRuLines
import Derived.Test.YtokfcndhmbkelaaShelf
namespace Go.Proofs.Ytokfcndhmbkelaa
open Go.RowKit
def lineB (l : List UInt8) : List UInt8 := l.takeWhile fun c => c != 10
theorem lineB_nil : lineB [] = [] := rfl
theorem lineB_le : ∀ l, (lineB l).length ≤ l.length
  | [] => Nat.le_refl _
  | c :: r => by
    have := lineB_le r
    unfold lineB at *
    rw [List.takeWhile_cons]
    split
    · simp; omega
    · simp
theorem lineB_take : ∀ l, l.take (lineB l).length = lineB l
  | [] => rfl
  | c :: r => by
    have := lineB_take r
    unfold lineB at *
    rw [List.takeWhile_cons]
    split
    · rw [List.length_cons, List.take_succ_cons, this]
    · rfl
theorem index_line : ∀ l : List UInt8, Lib.indexByte l 10 = if (lineB l).length = l.length then -1 else ((lineB l).length : Int)
  | [] => rfl
  | c :: r => by
    have ih := index_line r
    have hle := lineB_le r
    unfold lineB at *
    rw [List.takeWhile_cons]
    unfold Lib.indexByte
    by_cases h : c = 10
    · subst h; simp
    · have h1 : (c == 10) = false := by simpa using h
      have h2 : (c != 10) = true := by simpa using h
      rw [h1, h2, if_neg (by simp), if_pos rfl, ih, List.length_cons]
      by_cases g : (List.takeWhile (fun c => c != 10) r).length = r.length
      · rw [if_pos g]; simp [g]
      · rw [if_neg g, if_neg (by simp), List.length_cons, if_neg (by omega)]; simp
theorem mk_extract (l : List UInt8) (a b : Nat) : (ByteArray.mk l.toArray).extract a b = ⟨((l.drop a).take (b - a)).toArray⟩ := by
  apply Go.WideShapes.bytes_inj
  rw [Lib.extract_data]
theorem mk_to_end (l : List UInt8) (a n : Nat) (h : l.length ≤ n) : (ByteArray.mk l.toArray).extract a n = ⟨(l.drop a).toArray⟩ := by
  rw [mk_extract, List.take_of_length_le]
  rw [List.length_drop]; omega
/-- The first line, what stands behind its end, and whether there is an end. -/
def cutB (l : List UInt8) : List UInt8 × List UInt8 × Bool := (lineB l, l.drop ((lineB l).length + 1), (lineB l).length != l.length)
set_option maxHeartbeats 1000000 in
theorem lcut_c (l : List UInt8) (hl : l.length ≤ 1000000) (w : World) : Calls Try.prog 27 #[str l, .string ⟨#[10]⟩] w fun e w' => e = .returned (.tuple #[str (cutB l).1, str (cutB l).2.1, .bool (cutB l).2.2]) ∧ ∃ n, w' = w.drewN n := by
  have IC := Try.stringslite_Index_one ⟨l.toArray⟩ 10 w
  rw [show (⟨l.toArray⟩ : ByteArray).data.toList = l from rfl, index_line] at IC
  have hle := lineB_le l
  have hs := mk_size l
  by_cases h : (lineB l).length = l.length
  · rw [if_pos h] at IC
    have X := Lib.hid (show cutB l = (l, [], false) by
      have ht := lineB_take l
      rw [h, List.take_length] at ht
      unfold cutB
      rw [h, ← ht, List.drop_eq_nil_of_le (by omega)]; simp)
    unfold str
    have Y := Lib.hid (show (ByteArray.mk l.toArray) = ⟨(cutB l).1.toArray⟩ by rw [X.out])
    have IC' := Lib.hid IC
    clear IC h
    generalize hs0 : (ByteArray.mk l.toArray) = s at *
    clear hs0
    go_enter Try.func27, Try.ntmps27
    go_wp2_with fail
    refine IC'.out.mono ?_; rintro e w1 ⟨rfl, rfl⟩
    go_wp2_with fail
    go_ret3
    exact ⟨by rw [← Y.out, X.out]; rfl, 0, rfl⟩
  · rw [if_neg h] at IC
    have X := Lib.hid (show cutB l = (l.take (lineB l).length, l.drop ((lineB l).length + 1), true) by
      unfold cutB
      rw [lineB_take, show ((lineB l).length != l.length) = true from by simpa using h])
    have hlt : (lineB l).length < l.length := by omega
    generalize (lineB l).length = n at *
    unfold str
    have e1 := mk_extract l 0 n
    have e2 := mk_to_end l (n + 1) l.length (Nat.le_refl _)
    rw [← hs] at e2 hlt
    rw [List.drop_zero, Nat.sub_zero] at e1
    have E1 := Lib.hid e1
    have E2 := Lib.hid e2
    have IC' := Lib.hid IC
    have hsm : (ByteArray.mk l.toArray).size ≤ 1000000 := by omega
    clear IC h e1 e2 hle hs
    generalize hs0 : (ByteArray.mk l.toArray) = s at *
    clear hs0
    have t1 : decide ((0 : Int) ≤ (n : Int)) = true := by simp
    have t2 : (n : Int) ≤ (s.size : Int) := by omega
    have t3 : (n : Int) + 1 ≤ (s.size : Int) := by omega
    go_enter Try.func27, Try.ntmps27
    go_wp2_with fail
    refine IC'.out.mono ?_; rintro e w1 ⟨rfl, rfl⟩
    go_wp2_with fail
    go_quiet (fail)
    go_wp2_with fail
    go_ret3
    exact ⟨by
      rw [X.out]
      show Ending.returned (.tuple #[.string (s.extract 0 n), .string (s.extract (n + 1) s.size), .bool true]) = _
      rw [E1.out, E2.out], _, rfl⟩
set_option maxHeartbeats 1000000 in
theorem cut_c (l : List UInt8) (hl : l.length ≤ 1000000) (w : World) : Calls Try.prog 16 #[str l, .string ⟨#[10]⟩] w fun e w' => e = .returned (.tuple #[str (cutB l).1, str (cutB l).2.1, .bool (cutB l).2.2]) ∧ ∃ n, w' = w.drewN n := by
  have LC := Lib.hid (lcut_c l hl w)
  go_enter Try.func16, Try.ntmps16
  unfold str at *
  generalize (⟨(cutB l).1.toArray⟩ : ByteArray) = a at *
  generalize (⟨(cutB l).2.1.toArray⟩ : ByteArray) = b at *
  generalize (cutB l).2.2 = c at *
  go_wp2_with fail
  refine LC.out.mono ?_; rintro e w1 ⟨rfl, n, rfl⟩
  go_wp2_with fail
  go_ret3
  exact ⟨rfl, n, rfl⟩
/-- Where the line that begins at a place ends. -/
def endN (l : List UInt8) (a : Nat) : Nat := a + (lineB (l.drop a)).length
theorem endN_stop {l : List UInt8} {a : Nat} (h : l.length ≤ a ∨ (a < l.length ∧ nth l a = 10)) : endN l a = a := by
  unfold endN
  rcases h with h | ⟨h, h2⟩
  · rw [List.drop_eq_nil_of_le h]; rfl
  · rw [List.drop_eq_getElem_cons h]
    rw [nth_get h] at h2
    have : l[a] = 10 := UInt8.toNat_inj.1 h2
    unfold lineB
    rw [List.takeWhile_cons, this]; rfl
theorem endN_step {l : List UInt8} {a : Nat} (h : a < l.length) (h2 : nth l a ≠ 10) : endN l a = endN l (a + 1) := by
  unfold endN
  rw [List.drop_eq_getElem_cons h]
  rw [nth_get h] at h2
  have : (l[a] != 10) = true := by
    rw [bne_iff_ne]; intro e; rw [e] at h2; exact h2 rfl
  unfold lineB
  rw [List.takeWhile_cons, this, if_pos rfl, List.length_cons]
  omega
theorem endN_le {l : List UInt8} {a : Nat} (h : a ≤ l.length) : a ≤ endN l a ∧ endN l a ≤ l.length := by
  unfold endN
  have := lineB_le (l.drop a)
  rw [List.length_drop] at this
  omega
set_option maxHeartbeats 1000000 in
theorem end_c (l : List UInt8) (hl : l.length ≤ 1000000) (a : Nat) (ha : a ≤ l.length) (w : World) : Calls Try.prog 19 #[str l, .int .i64 a] w fun e w' => e = .returned (.int .i64 (endN l a)) ∧ w = w' := by
  unfold str
  have hs := mk_size l
  have hg := mk_get l
  generalize (ByteArray.mk l.toArray) = s at *
  have HG := Lib.hid hg
  have HS := Lib.hid hs
  have hsm : s.size ≤ 1000000 := by omega
  clear hg hs
  go_enter Try.func19, Try.ntmps19
  go_wp2_with fail
  go_loop [1] (fun i => ∃ k : Nat, k ≤ l.length ∧ i = .int .i64 k ∧ endN l a = endN l k) (fun i => l.length - (intOf i).toNat)
  case atStart => exact ⟨a, ha, rfl, rfl⟩
  case round =>
    obtain ⟨k, hk, rfl, hr⟩ := hrel
    have HR := Lib.hid hr
    have hss := HS.out
    clear hr
    by_cases hlt : k < l.length
    · have h2 : k < s.size := by omega
      have e1 := HG.out k h2
      have t1 : decide (k < s.size) = true := by simp; omega
      by_cases h10 : nth l k = 10
      · have t2 : ((nth l k : Int) != 10) = false := by simp; omega
        have HX := Lib.hid (endN_stop (.inr ⟨hlt, h10⟩))
        clear h10 hss
        go_wp2_with fail
        go_ret
        exact ⟨ret_int (by rw [HR.out, HX.out]), rfl⟩
      · have t2 : ((nth l k : Int) != 10) = true := by simp; omega
        have HX := Lib.hid (endN_step hlt h10)
        clear h10 hss
        go_wp2_with fail
        go_round
        case rel => exact ⟨k + 1, by omega, by go_num, by rw [HR.out, HX.out]⟩
        case measure => simp [intOf]; omega
    · have t1 : decide (k < s.size) = false := by simp; omega
      have HX := Lib.hid (endN_stop (l := l) (a := k) (.inl (by omega)))
      clear hss
      go_wp2_with fail
      go_ret
      exact ⟨ret_int (by rw [HR.out, HX.out]), rfl⟩
end Go.Proofs.Ytokfcndhmbkelaa
