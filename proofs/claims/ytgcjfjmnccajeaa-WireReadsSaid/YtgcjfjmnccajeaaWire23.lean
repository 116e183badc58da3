/- The reference's number as bytes. -/
import Derived.Test.YtgcjfjmnccajeaaWire14
import Derived.Test.YtgcjfjmnccajeaaWire20
namespace Go.Proofs.Ytgcjfjmnccajeaa
open Go.RowKit
theorem Wire20_app (c : UInt8) (l : List UInt8) : (⟨[c].toArray⟩ : ByteArray) ++ ⟨l.toArray⟩ = ⟨(c :: l).toArray⟩ := mk_app [c] l
theorem conv_at (c : UInt8) (g : Nat) (W : World) (h : W.cell? ⟨g, 0, none⟩ = some (.int .u8 c.toNat)) : (convert 61 9 (.slice (some ⟨g, 0, none⟩) 1 1)).run Try.prog W = .ok (.string ⟨[c].toArray⟩) W := by
  refine run_convert_bytes_back _ 61 9 5 _ 1 [c] Try.underlying61 Try.underlying5 Try.underlying9 ?_
  intro j hj
  have : j = 0 := by simp at hj; omega
  subst this
  exact h
theorem conv_new (c : UInt8) (W : World) : (convert 61 9 (.slice (some ⟨W.heap.size, 0, none⟩) 1 1)).run Try.prog (W.alloc (.cells #[.int .u8 c.toNat] 5)) = .ok (.string ⟨[c].toArray⟩) (W.alloc (.cells #[.int .u8 c.toNat] 5)) := conv_at c W.heap.size _ (cell_one_new _ _ _ 0 _ rfl)
theorem conv_newd (c : UInt8) (W : World) : (convert 61 9 (.slice (some ⟨W.heap.size, 0, none⟩) 1 1)).run Try.prog (W.alloc (.cells #[.int .u8 c.toNat] 5)).drew = .ok (.string ⟨[c].toArray⟩) (W.alloc (.cells #[.int .u8 c.toNat] 5)).drew := conv_at c W.heap.size _ (cell_one_new W _ _ 0 _ rfl)
set_option maxHeartbeats 2000000 in
set_option maxRecDepth 100000 in
theorem number_f : ∀ (f n : Nat), f ≤ 10 → n < 128 * 128 ^ f → n ≤ 1099511627776 → ∀ w : World, Calls Try.prog 26 #[.int .i64 n] w fun e w' => e = .returned (.string ⟨(encF f n).toArray⟩) ∧ Below w.heap.size w w' := by
  intro f
  induction f with
  | zero =>
    intro n _ hn hm w
    have h1 : n < 128 := by simpa using hn
    have t1 : decide ((n : Int) < 128) = true := by simp; omega
    have U : IntKind.u8.wrap (n : Int) = n := IntWalk.u8_in _ (by omega)
    have hc : (n.toUInt8).toNat = n := u8_toNat (by omega)
    have K := conv_new n.toUInt8
    rw [hc] at K
    clear hn h1 hc
    go_enter Try.func26, Try.ntmps26
    go_wp2_with fail
    go_returns
    exact ⟨rfl, below_alloc (Below.refl _ _) _⟩
  | succ f ih =>
    intro n hf hn hm w
    by_cases h1 : n < 128
    · have t1 : decide ((n : Int) < 128) = true := by simp; omega
      have U : IntKind.u8.wrap (n : Int) = n := IntWalk.u8_in _ (by omega)
      have hc : (n.toUInt8).toNat = n := u8_toNat (by omega)
      have K := conv_new n.toUInt8
      rw [hc] at K
      have X := Lib.hid (show encF (f + 1) n = [n.toUInt8] from by unfold encF; rw [if_pos h1])
      clear hn h1 hc ih hf
      go_enter Try.func26, Try.ntmps26
      go_wp2_with fail
      go_returns
      rw [X.out]
      exact ⟨rfl, below_alloc (Below.refl _ _) _⟩
    · have t1 : decide ((n : Int) < 128) = false := by simp; omega
      obtain ⟨c, hcc⟩ : ∃ c : Nat, c = n % 128 + 128 := ⟨_, rfl⟩
      have S : (n : Int) % 128 + 128 = (c : Nat) := by omega
      have U : IntKind.u8.wrap (c : Int) = c := IntWalk.u8_in _ (by omega)
      have hc : (c.toUInt8).toNat = c := u8_toNat (by omega)
      have D : (n : Int) / 128 = ((n / 128 : Nat) : Int) := by omega
      have R1 : IntKind.u8.wrap (IntKind.i64.wrap ((n : Int).tmod 128 + 128)) = (c : Nat) := by
        rw [show (n : Int).tmod 128 = (n : Int) % 128 from Int.tmod_eq_emod_of_nonneg (by omega), S, show IntKind.i64.wrap (c : Int) = c from IntWalk.i64_in _ (by omega)]; exact U
      have R2 : IntKind.i64.wrap ((n / 128 : Nat) : Int) = (n / 128 : Nat) := IntWalk.i64_in _ (by omega)
      have K1 := conv_new c.toUInt8
      have K2 := conv_newd c.toUInt8
      have K3 := Lib.hid (fun g W h => conv_at c.toUInt8 g W h)
      rw [hc] at K1 K2 K3
      have X := Lib.hid (show encF (f + 1) n = c.toUInt8 :: encF f (n / 128) from by show (if n < 128 then _ else _) = _; rw [if_neg h1, hcc])
      have IH := Lib.hid (fun w1 => ih (n / 128) (by omega) (by rw [Nat.pow_succ] at hn; omega) (by omega) w1)
      clear hn h1 hc ih hcc
      generalize n / 128 = m at *
      have hn2 : n ≤ 1099511627776 := hm
      have ML := Lib.hid (Wire20_app c.toUInt8 (encF f m))
      have l1 := mk_size [c.toUInt8]
      have l2 := mk_size (encF f m)
      have l3 := encF_len f m
      generalize hs1 : (⟨[c.toUInt8].toArray⟩ : ByteArray) = sc at *
      generalize hs2 : (⟨(encF f m).toArray⟩ : ByteArray) = se at *
      clear hs1 hs2
      have l4 : sc.size ≤ 20 := by rw [l1]; simp
      have l5 : se.size ≤ 20 := by omega
      clear l1 l2 l3
      go_enter Try.func26, Try.ntmps26
      have B0 := Lib.hid (Blk.made w 5 #[.int .u8 (c : Nat)])
      go_wp2_with fail
      go_region_with (go_at_call 26; (with_reducible refine (IH.out _).mono ?_); rintro e w1 ⟨rfl, k1⟩; (first | (have KB := K3.out w.heap.size w1 ((B0.out.drew.below k1).cell 0)) | skip))
      all_goals (go_wp2_with fail; go_returns; rw [X.out, ← ML.out])
      all_goals first | exact ⟨rfl, below_step (below_draws (below_alloc (Below.refl _ _) _) 1) k1⟩ | exact ⟨rfl, below_alloc (below_step (below_draws (Below.refl _ _) 1) k1) _⟩
theorem number_c (n : Nat) (hn : n ≤ 1099511627776) (w : World) : Calls Try.prog 26 #[.int .i64 n] w fun e w' => e = .returned (.string ⟨(encN n).toArray⟩) ∧ Below w.heap.size w w' := number_f 10 n (by omega) (by omega) hn w
end Go.Proofs.Ytgcjfjmnccajeaa
