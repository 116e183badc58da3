/- The walks of package bytes256: sets as four words. -/
import Derived.Test.YtonicgbejmghkaaDoorRows
import Derived.Test.YtonicgbejmghkaaDoorKit
import Derived.WalkKit
import Derived.WalkSpells
import Derived.WalkLawsBesides
import Derived.Lib.Hide
import Derived.RegionTactic
import Derived.Deep.QuietTactic
import Derived.BigQuiet
import Derived.Laws.BitsAllLaws
import Derived.LoopN
import Derived.Outline
namespace Go.Proofs.YtonicgbejmghkaaDoor
open Go.RowKit
/-- A set's value: four words. -/
def setV (S : Nat → Nat) : Value := .agg #[.int .u64 (S 0), .int .u64 (S 1), .int .u64 (S 2), .int .u64 (S 3)]
def okS (S : Nat → Nat) : Prop := ∀ i, S i < 18446744073709551616
/-- Is the byte b there? -/
def has (S : Nat → Nat) (b : Nat) : Bool := (S (b / 64)).testBit (b % 64)
theorem test_bit (x k : Nat) : ((x / 2 ^ k) % 2 == 1) = x.testBit k := by
  rw [Nat.testBit_eq_decide_div_mod_eq]; rfl
theorem and_bit (x k : Nat) (hx : x < 18446744073709551616) : (bits BinOp.and IntKind.u64 ((x : Int) / 2 ^ k) 1 == 1) = x.testBit k := by
  have e : ((x : Int) / 2 ^ k) = ((x / 2 ^ k : Nat) : Int) := by
    rw [Int.natCast_ediv, Int.natCast_pow]; rfl
  have hle : x / 2 ^ k ≤ x := Nat.div_le_self _ _
  rw [e, show (1 : Int) = ((1 : Nat) : Int) from rfl, u64_and_nat _ _ (by omega) (by omega), Nat.and_one_is_mod, ← test_bit, Bool.eq_iff_iff]
  simp; omega
theorem rmod_bit (x k : Nat) : (((x : Int) / 2 ^ k).tmod 2 == 1) = x.testBit k := by
  have e : ((x : Int) / 2 ^ k) = ((x / 2 ^ k : Nat) : Int) := by
    rw [Int.natCast_ediv, Int.natCast_pow]; rfl
  rw [e, ← test_bit, Bool.eq_iff_iff, Int.tmod_eq_emod_of_nonneg (Int.natCast_nonneg _)]
  simp; omega
theorem has_c (S : Nat → Nat) (hS : okS S) (b : Nat) (hb : b < 256) (w : World) : Calls Tryd.prog 13 #[setV S, .int .u8 b] w fun e w' => e = .returned (.bool (has S b)) ∧ Below w.heap.size w w' := by
  have h0 := hS 0
  have h1 := hS 1
  have h2 := hS 2
  have h3 := hS 3
  clear hS
  unfold setV
  by_cases q0 : b / 64 = 0
  · have hq : (b : Int) / 64 = 0 := by omega
    have e : has S b = (S 0).testBit (b % 64) := by unfold has; rw [q0]
    have E := Lib.hid e
    clear e q0
    go_enter Tryd.func13, Tryd.ntmps13
    go_wp2
    go_ret
    exact ⟨ret_bool (by rw [E.out]; exact and_bit _ _ h0), below_alloc (Below.refl _ _) _⟩
  · by_cases q1 : b / 64 = 1
    · have hq : (b : Int) / 64 = 1 := by omega
      have e : has S b = (S 1).testBit (b % 64) := by unfold has; rw [q1]
      have E := Lib.hid e
      clear e q0 q1
      go_enter Tryd.func13, Tryd.ntmps13
      go_wp2
      go_ret
      exact ⟨ret_bool (by rw [E.out]; exact and_bit _ _ h1), below_alloc (Below.refl _ _) _⟩
    · by_cases q2 : b / 64 = 2
      · have hq : (b : Int) / 64 = 2 := by omega
        have e : has S b = (S 2).testBit (b % 64) := by unfold has; rw [q2]
        have E := Lib.hid e
        clear e q0 q1 q2
        go_enter Tryd.func13, Tryd.ntmps13
        go_wp2
        go_ret
        exact ⟨ret_bool (by rw [E.out]; exact and_bit _ _ h2), below_alloc (Below.refl _ _) _⟩
      · by_cases q3 : b / 64 = 3
        · have hq : (b : Int) / 64 = 3 := by omega
          have e : has S b = (S 3).testBit (b % 64) := by unfold has; rw [q3]
          have E := Lib.hid e
          clear e q0 q1 q2 q3
          go_enter Tryd.func13, Tryd.ntmps13
          go_wp2
          go_ret
          exact ⟨ret_bool (by rw [E.out]; exact and_bit _ _ h3), below_alloc (Below.refl _ _) _⟩
        · omega
theorem rhas_c (S : Nat → Nat) (hS : okS S) (b : Nat) (hb : b < 256) (w : World) : Calls Tryd.prog 20 #[setV S, .int .i64 b] w fun e w' => e = .returned (.bool (has S b)) ∧ Below w.heap.size w w' := by
  have h0 := hS 0
  have h1 := hS 1
  have h2 := hS 2
  have h3 := hS 3
  clear hS
  unfold setV
  by_cases q0 : b / 64 = 0
  · have hq : (b : Int) / 64 = 0 := by omega
    have e : has S b = (S 0).testBit (b % 64) := by unfold has; rw [q0]
    have E := Lib.hid e
    clear e q0
    go_enter Tryd.func20, Tryd.ntmps20
    go_wp2
    go_ret
    exact ⟨ret_bool (by rw [E.out]; exact rmod_bit _ _), below_alloc (Below.refl _ _) _⟩
  · by_cases q1 : b / 64 = 1
    · have hq : (b : Int) / 64 = 1 := by omega
      have e : has S b = (S 1).testBit (b % 64) := by unfold has; rw [q1]
      have E := Lib.hid e
      clear e q0 q1
      go_enter Tryd.func20, Tryd.ntmps20
      go_wp2
      go_ret
      exact ⟨ret_bool (by rw [E.out]; exact rmod_bit _ _), below_alloc (Below.refl _ _) _⟩
    · by_cases q2 : b / 64 = 2
      · have hq : (b : Int) / 64 = 2 := by omega
        have e : has S b = (S 2).testBit (b % 64) := by unfold has; rw [q2]
        have E := Lib.hid e
        clear e q0 q1 q2
        go_enter Tryd.func20, Tryd.ntmps20
        go_wp2
        go_ret
        exact ⟨ret_bool (by rw [E.out]; exact rmod_bit _ _), below_alloc (Below.refl _ _) _⟩
      · by_cases q3 : b / 64 = 3
        · have hq : (b : Int) / 64 = 3 := by omega
          have e : has S b = (S 3).testBit (b % 64) := by unfold has; rw [q3]
          have E := Lib.hid e
          clear e q0 q1 q2 q3
          go_enter Tryd.func20, Tryd.ntmps20
          go_wp2
          go_ret
          exact ⟨ret_bool (by rw [E.out]; exact rmod_bit _ _), below_alloc (Below.refl _ _) _⟩
        · omega
theorem or_c (S T : Nat → Nat) (hS : okS S) (hT : okS T) (w : World) : Calls Tryd.prog 19 #[setV S, setV T] w fun e w' => e = .returned (setV fun i => S i ||| T i) ∧ Below w.heap.size w w' := by
  have h0 := u64_or_nat _ _ (hS 0) (hT 0)
  have h1 := u64_or_nat _ _ (hS 1) (hT 1)
  have h2 := u64_or_nat _ _ (hS 2) (hT 2)
  have h3 := u64_or_nat _ _ (hS 3) (hT 3)
  clear hS hT
  unfold setV
  go_enter Tryd.func19, Tryd.ntmps19
  go_wp2
  refine wp_loop_rounds 5 ?_
  rw [rounds_succ]; go_wp2; go_region; go_wp2
  rw [rounds_succ]; go_wp2; go_region; go_wp2
  rw [rounds_succ]; go_wp2; go_region; go_wp2
  rw [rounds_succ]; go_wp2; go_region; go_wp2
  rw [rounds_succ]; go_wp2
  exact bodyPost_ret (v := .agg #[.int .u64 ↑(S 0 ||| T 0), .int .u64 ↑(S 1 ||| T 1), .int .u64 ↑(S 2 ||| T 2), .int .u64 ↑(S 3 ||| T 3)]) (by simp [results, Tryd.results19, go_sem]) rfl ⟨rfl, ((below_alloc (below_alloc (below_alloc (Below.refl _ _) _) _) _).drew.drew.drew.drew)⟩
theorem and_c (S T : Nat → Nat) (hS : okS S) (hT : okS T) (w : World) : Calls Tryd.prog 21 #[setV S, setV T] w fun e w' => e = .returned (setV fun i => S i &&& T i) ∧ Below w.heap.size w w' := by
  have h0 := u64_and_nat _ _ (hS 0) (hT 0)
  have h1 := u64_and_nat _ _ (hS 1) (hT 1)
  have h2 := u64_and_nat _ _ (hS 2) (hT 2)
  have h3 := u64_and_nat _ _ (hS 3) (hT 3)
  clear hS hT
  unfold setV
  go_enter Tryd.func21, Tryd.ntmps21
  go_wp2
  refine wp_loop_rounds 5 ?_
  rw [rounds_succ]; go_wp2; go_region; go_wp2
  rw [rounds_succ]; go_wp2; go_region; go_wp2
  rw [rounds_succ]; go_wp2; go_region; go_wp2
  rw [rounds_succ]; go_wp2; go_region; go_wp2
  rw [rounds_succ]; go_wp2
  exact bodyPost_ret (v := .agg #[.int .u64 ↑(S 0 &&& T 0), .int .u64 ↑(S 1 &&& T 1), .int .u64 ↑(S 2 &&& T 2), .int .u64 ↑(S 3 &&& T 3)]) (by simp [results, Tryd.results21, go_sem]) rfl ⟨rfl, ((below_alloc (below_alloc (below_alloc (Below.refl _ _) _) _) _).drew.drew.drew.drew)⟩
theorem xor_max (x : Nat) (hx : x < 18446744073709551616) : bits BinOp.xor IntKind.u64 IntKind.u64.max (x : Int) = ((18446744073709551615 - x : Nat) : Int) := by
  have e : IntKind.u64.max = ((18446744073709551615 : Nat) : Int) := by decide
  rw [e, u64_xor_nat _ _ (by omega) hx]
  congr 1
  have h : (BitVec.allOnes 64 ^^^ BitVec.ofNat 64 x).toNat = (~~~ (BitVec.ofNat 64 x)).toNat := by rw [BitVec.allOnes_xor]
  rw [BitVec.toNat_not, BitVec.toNat_xor, BitVec.toNat_allOnes, BitVec.toNat_ofNat, Nat.mod_eq_of_lt (by omega)] at h
  simpa using h
set_option maxRecDepth 100000 in
theorem not_c (S : Nat → Nat) (hS : okS S) (w : World) : Calls Tryd.prog 22 #[setV S] w fun e w' => e = .returned (setV fun i => 18446744073709551615 - S i) ∧ Below w.heap.size w w' := by
  have h0 := xor_max _ (hS 0)
  have h1 := xor_max _ (hS 1)
  have h2 := xor_max _ (hS 2)
  have h3 := xor_max _ (hS 3)
  clear hS
  unfold setV
  obtain ⟨n0, e0⟩ : ∃ n, 18446744073709551615 - S 0 = n := ⟨_, rfl⟩
  obtain ⟨n1, e1⟩ : ∃ n, 18446744073709551615 - S 1 = n := ⟨_, rfl⟩
  obtain ⟨n2, e2⟩ : ∃ n, 18446744073709551615 - S 2 = n := ⟨_, rfl⟩
  obtain ⟨n3, e3⟩ : ∃ n, 18446744073709551615 - S 3 = n := ⟨_, rfl⟩
  simp only [e0, e1, e2, e3] at h0 h1 h2 h3 ⊢
  clear e0 e1 e2 e3
  go_enter Tryd.func22, Tryd.ntmps22
  go_wp2
  refine wp_loop_rounds 5 ?_
  rw [rounds_succ]; go_wp2
  rw [rounds_succ]; go_wp2
  rw [rounds_succ]; go_wp2
  rw [rounds_succ]; go_wp2
  rw [rounds_succ]; go_wp2
  exact bodyPost_ret (v := .agg #[.int .u64 n0, .int .u64 n1, .int .u64 n2, .int .u64 n3]) (by simp [results, Tryd.results22, go_sem]) rfl ⟨rfl, below_alloc (below_alloc (Below.refl _ _) _) _⟩
theorem pow_wrap (k : Nat) (h : k < 64) : IntKind.u64.wrap (2 ^ k) = ((2 ^ k : Nat) : Int) := by
  have this : (2 : Nat) ^ k < 18446744073709551616 := Nat.pow_lt_pow_right (n := 64) (a := 2) (by omega) h
  have e : (2 : Int) ^ k = ((2 ^ k : Nat) : Int) := by rw [Int.natCast_pow]; rfl
  rw [e]
  generalize 2 ^ k = n at this
  exact IntWalk.u64_in _ (by omega)
def oneS (b : Nat) (i : Nat) : Nat := if i = b / 64 then 2 ^ (b % 64) else 0
/-- A byte comes. -/
def insS (S : Nat → Nat) (b : Nat) (i : Nat) : Nat := if i = b / 64 then S i ||| 2 ^ (b % 64) else S i
def ofS (lo : Nat) : Nat → Nat → Nat
  | 0 => fun _ => 0
  | n + 1 => insS (ofS lo n) (lo + n)
theorem ins_ok {S : Nat → Nat} (h : okS S) {b : Nat} : okS (insS S b) := by
  intro i
  unfold insS
  split
  · exact Nat.or_lt_two_pow (n := 64) (h i) (Nat.pow_lt_pow_right (by omega) (by omega))
  · exact h i
theorem of_ok (lo : Nat) : ∀ n, okS (ofS lo n)
  | 0 => fun _ => by show 0 < _; omega
  | n + 1 => ins_ok (of_ok lo n)
theorem or_pow (x k : Nat) (hx : x < 18446744073709551616) (hk : k < 64) : bits BinOp.or IntKind.u64 (x : Int) (IntKind.u64.wrap (2 ^ k)) = ((x ||| 2 ^ k : Nat) : Int) := by
  rw [pow_wrap k hk]
  exact u64_or_nat _ _ hx (Nat.pow_lt_pow_right (n := 64) (a := 2) (by omega) (by omega))
def setCs (S : Nat → Nat) : Array Value := #[.int .u64 (S 0), .int .u64 (S 1), .int .u64 (S 2), .int .u64 (S 3)]
theorem ins_cs {S : Nat → Nat} {b q : Nat} (hq : b / 64 = q) (h4 : q < 4) : (setCs S).setIfInBounds q (.int .u64 ((S q ||| 2 ^ (b % 64) : Nat) : Int)) = setCs (insS S b) := by
  subst hq
  have : b / 64 = 0 ∨ b / 64 = 1 ∨ b / 64 = 2 ∨ b / 64 = 3 := by omega
  rcases this with h | h | h | h <;> simp [setCs, insS, h]
set_option maxHeartbeats 1000000 in
theorem of_c (lo hi : Nat) (h1 : lo < 256) (h2 : hi < 256) (w : World) : Calls Tryd.prog 23 #[.int .u8 lo, .int .u8 hi] w fun e w' => e = .returned (setV (ofS lo (hi + 1 - lo))) ∧ Below w.heap.size w w' := by
  go_enter Tryd.func23, Tryd.ntmps23
  go_wp2_with fail
  go_loopw [5] (fun i wr => ∃ n, i = .int .i64 ((lo + n : Nat) : Int) ∧ n ≤ hi + 1 - lo ∧ Blk wr w.heap.size 35 (setCs (ofS lo n)) ∧ Below w.heap.size w wr) (fun i _ => hi + 1 - (intOf i).toNat)
  case atStart => exact ⟨0, rfl, by omega, Blk.made _ _ _, below_alloc (Below.refl _ _) _⟩
  case round =>
    obtain ⟨n, rfl, hn, hb, hw⟩ := hrel
    obtain ⟨b, hbb⟩ : ∃ b, lo + n = b := ⟨_, rfl⟩
    rw [hbb]
    have hok := of_ok lo n
    obtain ⟨S, hS⟩ : ∃ S, ofS lo n = S := ⟨_, rfl⟩
    rw [hS] at hb hok
    have c0 : wr.cell? ⟨w.heap.size, 0, none⟩ = some (.int .u64 (S 0)) := hb.cell 0
    have c1 : wr.cell? ⟨w.heap.size, 1, none⟩ = some (.int .u64 (S 1)) := hb.cell 1
    have c2 : wr.cell? ⟨w.heap.size, 2, none⟩ = some (.int .u64 (S 2)) := hb.cell 2
    have c3 : wr.cell? ⟨w.heap.size, 3, none⟩ = some (.int .u64 (S 3)) := hb.cell 3
    have f0 : wr.frozen? ⟨w.heap.size, 0, none⟩ = false := hb.free 0
    have f1 : wr.frozen? ⟨w.heap.size, 1, none⟩ = false := hb.free 1
    have f2 : wr.frozen? ⟨w.heap.size, 2, none⟩ = false := hb.free 2
    have f3 : wr.frozen? ⟨w.heap.size, 3, none⟩ = false := hb.free 3
    have HB := Lib.hid hb
    have HW := Lib.hid hw
    have HS := Lib.hid hS
    have HBB := Lib.hid hbb
    have HO := Lib.hid hok
    clear hb hw hS hbb hok
    by_cases hlt : b ≤ hi
    · have hb4 : b < 256 := by omega
      by_cases q0 : b / 64 = 0
      · have hq : (b : Int) / 64 = 0 := by omega
        have hm := or_pow (S 0) (b % 64) (HO.out 0) (by omega)
        have R := Lib.hid (ins_cs (S := S) q0 (by decide))
        obtain ⟨x, hx⟩ : ∃ x, S 0 ||| 2 ^ (b % 64) = x := ⟨_, rfl⟩
        rw [hx] at hm
        have X := Lib.hid hx
        clear hx q0
        go_wp2
        go_region
        go_wp2
        go_roundw
        case rel => exact ⟨n + 1, by rw [← HBB.out]; go_num, by have := HBB.out; omega, by rw [show ofS lo (n + 1) = insS S b from (by rw [← HS.out, ← HBB.out]; rfl), ← R.out, X.out]; exact Blk.set (Blk.drew HB.out) 0 _, (HW.out.drew).setCell (Nat.le_refl _) _⟩
        case measure => simp [intOf]; omega
      · by_cases q1 : b / 64 = 1
        · have hq : (b : Int) / 64 = 1 := by omega
          have hm := or_pow (S 1) (b % 64) (HO.out 1) (by omega)
          have R := Lib.hid (ins_cs (S := S) q1 (by decide))
          obtain ⟨x, hx⟩ : ∃ x, S 1 ||| 2 ^ (b % 64) = x := ⟨_, rfl⟩
          rw [hx] at hm
          have X := Lib.hid hx
          clear hx q0 q1
          go_wp2
          go_region
          go_wp2
          go_roundw
          case rel => exact ⟨n + 1, by rw [← HBB.out]; go_num, by have := HBB.out; omega, by rw [show ofS lo (n + 1) = insS S b from (by rw [← HS.out, ← HBB.out]; rfl), ← R.out, X.out]; exact Blk.set (Blk.drew HB.out) 1 _, (HW.out.drew).setCell (Nat.le_refl _) _⟩
          case measure => simp [intOf]; omega
        · by_cases q2 : b / 64 = 2
          · have hq : (b : Int) / 64 = 2 := by omega
            have hm := or_pow (S 2) (b % 64) (HO.out 2) (by omega)
            have R := Lib.hid (ins_cs (S := S) q2 (by decide))
            obtain ⟨x, hx⟩ : ∃ x, S 2 ||| 2 ^ (b % 64) = x := ⟨_, rfl⟩
            rw [hx] at hm
            have X := Lib.hid hx
            clear hx q0 q1 q2
            go_wp2
            go_region
            go_wp2
            go_roundw
            case rel => exact ⟨n + 1, by rw [← HBB.out]; go_num, by have := HBB.out; omega, by rw [show ofS lo (n + 1) = insS S b from (by rw [← HS.out, ← HBB.out]; rfl), ← R.out, X.out]; exact Blk.set (Blk.drew HB.out) 2 _, (HW.out.drew).setCell (Nat.le_refl _) _⟩
            case measure => simp [intOf]; omega
          · by_cases q3 : b / 64 = 3
            · have hq : (b : Int) / 64 = 3 := by omega
              have hm := or_pow (S 3) (b % 64) (HO.out 3) (by omega)
              have R := Lib.hid (ins_cs (S := S) q3 (by decide))
              obtain ⟨x, hx⟩ : ∃ x, S 3 ||| 2 ^ (b % 64) = x := ⟨_, rfl⟩
              rw [hx] at hm
              have X := Lib.hid hx
              clear hx q0 q1 q2 q3
              go_wp2
              go_region
              go_wp2
              go_roundw
              case rel => exact ⟨n + 1, by rw [← HBB.out]; go_num, by have := HBB.out; omega, by rw [show ofS lo (n + 1) = insS S b from (by rw [← HS.out, ← HBB.out]; rfl), ← R.out, X.out]; exact Blk.set (Blk.drew HB.out) 3 _, (HW.out.drew).setCell (Nat.le_refl _) _⟩
              case measure => simp [intOf]; omega
            · omega
    · go_wp2_with fail
      have en : n = hi + 1 - lo := by have := HBB.out; omega
      have g0 : (wr.setCell ⟨w.heap.size, 0, none⟩ (.int .u64 (S 0))).cell? ⟨w.heap.size, 0, none⟩ = some (.int .u64 (S 0)) := (Blk.set HB.out 0 _).cell 0
      have g1 : ((wr.setCell ⟨w.heap.size, 0, none⟩ (.int .u64 (S 0))).setCell ⟨w.heap.size, 1, none⟩ (.int .u64 (S 1))).cell? ⟨w.heap.size, 1, none⟩ = some (.int .u64 (S 1)) := (Blk.set (Blk.set HB.out 0 _) 1 _).cell 1
      have g2 : (((wr.setCell ⟨w.heap.size, 0, none⟩ (.int .u64 (S 0))).setCell ⟨w.heap.size, 1, none⟩ (.int .u64 (S 1))).setCell ⟨w.heap.size, 2, none⟩ (.int .u64 (S 2))).cell? ⟨w.heap.size, 2, none⟩ = some (.int .u64 (S 2)) := (Blk.set (Blk.set (Blk.set HB.out 0 _) 1 _) 2 _).cell 2
      have g3 : ((((wr.setCell ⟨w.heap.size, 0, none⟩ (.int .u64 (S 0))).setCell ⟨w.heap.size, 1, none⟩ (.int .u64 (S 1))).setCell ⟨w.heap.size, 2, none⟩ (.int .u64 (S 2))).setCell ⟨w.heap.size, 3, none⟩ (.int .u64 (S 3))).cell? ⟨w.heap.size, 3, none⟩ = some (.int .u64 (S 3)) := (Blk.set (Blk.set (Blk.set (Blk.set HB.out 0 _) 1 _) 2 _) 3 _).cell 3
      refine bodyPost_ret (v := setV S) (by simp [results, Tryd.results23, go_sem, setV, g0, g1, g2, g3]) rfl ⟨by rw [← en, HS.out], ?_⟩
      exact (((HW.out.setCell (Nat.le_refl _) _).setCell (Nat.le_refl _) _).setCell (Nat.le_refl _) _).setCell (Nat.le_refl _) _
end Go.Proofs.YtonicgbejmghkaaDoor
