/- The wire's reader: texts. -/
import Derived.Test.YtgcjfjmnccajeaaWire2
namespace Go.Proofs.Ytgcjfjmnccajeaa
open Go.RowKit
theorem rdP_ok (limit : Nat) : ∀ (f i acc : Nat) (rest : List UInt8) (bad : Bool), (rdP limit f i acc rest bad).2.2 = false → (rdP limit f i acc rest bad).1 ≤ limit
  | 0, _, _, _, _, h => by cases h
  | f + 1, i, acc, rest, bad, h => by
    unfold rdP at h ⊢
    by_cases h1 : (oneB rest bad).1 < 128
    · rw [if_pos h1] at h ⊢
      simp only [Bool.or_eq_false_iff, decide_eq_false_iff_not] at h
      omega
    · rw [if_neg h1] at h ⊢
      exact rdP_ok limit f _ _ _ _ h
theorem rdP_len (limit : Nat) : ∀ (f i acc : Nat) (rest : List UInt8) (bad : Bool), (rdP limit f i acc rest bad).2.1.length ≤ rest.length
  | 0, _, _, _, _ => Nat.le_refl _
  | f + 1, i, acc, rest, bad => by
    unfold rdP
    by_cases h1 : (oneB rest bad).1 < 128
    · rw [if_pos h1]; exact one_le rest bad
    · rw [if_neg h1]; exact Nat.le_trans (rdP_len limit f _ _ _ _) (one_le rest bad)
/-- What text answers, and leaves. -/
def textP (rest : List UInt8) (bad : Bool) : List UInt8 × List UInt8 × Bool :=
  if (rdP 4000 7 0 0 rest bad).2.2 = true then ([], (rdP 4000 7 0 0 rest bad).2.1, true)
  else if (rdP 4000 7 0 0 rest bad).2.1.length < (rdP 4000 7 0 0 rest bad).1 then ([], (rdP 4000 7 0 0 rest bad).2.1, true)
  else ((rdP 4000 7 0 0 rest bad).2.1.take (rdP 4000 7 0 0 rest bad).1, (rdP 4000 7 0 0 rest bad).2.1.drop (rdP 4000 7 0 0 rest bad).1, false)
set_option maxHeartbeats 2000000 in
set_option maxRecDepth 100000 in
theorem text_c (b : Nat) (t : TypeId) (tl : List Value) (rest : List UInt8) (hl : rest.length ≤ 1000000) (bad : Bool) (w : World) (h : Rd b t tl rest bad w) : Calls Try.prog 29 #[.pointer (some ⟨b, 0, none⟩)] w fun e w' =>
    e = .returned (str (textP rest bad).1) ∧ Rd b t tl (textP rest bad).2.1 (textP rest bad).2.2 w' ∧ Only [b] w w' := by
  have NC := Lib.hid (num_c 4000 b t tl rest hl bad w h)
  have TE := Lib.hid (textP.eq_1 rest bad)
  have OK := rdP_ok 4000 7 0 0 rest bad
  have LE := rdP_len 4000 7 0 0 rest bad
  generalize (rdP 4000 7 0 0 rest bad).1 = n at *
  generalize (rdP 4000 7 0 0 rest bad).2.1 = r at *
  generalize (rdP 4000 7 0 0 rest bad).2.2 = b2 at *
  clear h
  go_enter Try.func29, Try.ntmps29
  go_wp2_with fail
  refine NC.out.mono ?_; rintro e w1 ⟨rfl, h1, h2⟩
  have H1 := Lib.hid h1
  have H2 := Lib.hid h2
  have c0 := h1.cell0
  have c1 := h1.cell1
  have f0 := h1.free 0
  have f1 := h1.free 1
  clear h1 h2
  cases b2 with
  | true =>
    rw [if_pos rfl] at TE
    go_wp2_with fail
    go_returns
    rw [TE.out]
    exact ⟨rfl, H1.out.set1 true, H2.out.trans ((Only.refl _ _).set (by simp) _)⟩
  | false =>
    have hn := OK rfl
    clear OK
    have hs := mk_size r
    have E1 := Lib.hid (show (⟨r.toArray⟩ : ByteArray).extract 0 n = ⟨(r.take n).toArray⟩ from by rw [mk_extract, List.drop_zero, Nat.sub_zero])
    have E2 := Lib.hid (show (⟨r.toArray⟩ : ByteArray).extract n (⟨r.toArray⟩ : ByteArray).size = ⟨(r.drop n).toArray⟩ from mk_to_end r n _ (by rw [mk_size]; exact Nat.le_refl _))
    unfold str at *
    generalize (⟨r.toArray⟩ : ByteArray) = s at *
    have hsm : s.size ≤ 1000000 := by omega
    have HS := Lib.hid hs
    rw [if_neg (by simp)] at TE
    by_cases hlt : r.length < n
    · rw [if_pos hlt] at TE
      have t1 : decide (s.size < n) = true := by simp; omega
      clear hlt hs LE
      go_wp2_with fail
      go_returns
      rw [TE.out]
      exact ⟨rfl, H1.out.set1 true, H2.out.trans ((Only.refl _ _).set (by simp) _)⟩
    · rw [if_neg hlt] at TE
      have t1 : decide (s.size < n) = false := by simp; omega
      have t2 : (n : Int) ≤ (s.size : Nat) := by omega
      clear hlt hs LE
      go_wp2_with fail
      go_returns
      rw [TE.out, E1.out, E2.out]
      exact ⟨rfl, H1.out.set0 _, H2.out.trans ((Only.refl _ _).set (by simp) _)⟩
end Go.Proofs.Ytgcjfjmnccajeaa
