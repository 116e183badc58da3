/- The walks of a set's text. -/
import Derived.Test.YtgcbcmgadllhlaaDoorInside
import Derived.Test.YtgcbcmgadllhlaaDoorRNot
import Derived.Test.YtgcbcmgadllhlaaDoorBits
namespace Go.Proofs.YtgcbcmgadllhlaaDoor
open Go.RowKit
theorem upto_cnt (p : Nat → Bool) : ∀ n, (upto p n).length = cntB p n
  | 0 => rfl
  | n + 1 => by
    have ih := upto_cnt p n
    unfold upto cntB
    by_cases h : p n = true
    · simp [h, ih]
    · simp [h, ih]
/-- The first of them is the least one. -/
theorem upto_head (p : Nat → Bool) : ∀ n, (upto p n = [] ∧ firstB p n = -1) ∨ ∃ k l, upto p n = k :: l ∧ firstB p n = ((k : Nat) : Int) ∧ k < n
  | 0 => .inl ⟨rfl, rfl⟩
  | n + 1 => by
    rcases upto_head p n with ⟨h1, h2⟩ | ⟨k, l, h1, h2, h3⟩
    · by_cases h : p n = true
      · exact .inr ⟨n, [], by unfold upto; simp [h, h1], by unfold firstB; simp [h, h2], by omega⟩
      · exact .inl ⟨by unfold upto; simp [h, h1], by unfold firstB; simp [h, h2]⟩
    · have e : firstB p (n + 1) = (k : Int) := by unfold firstB; rw [h2, if_neg (by omega)]
      by_cases h : p n = true
      · exact .inr ⟨k, l ++ [n], by unfold upto; simp [h, h1], e, by omega⟩
      · exact .inr ⟨k, l, by unfold upto; simp [h, h1], e, by omega⟩
def textB (S : Nat → Nat) : List UInt8 :=
  if cntS S = 256 then [46] else if cntS S = 1 then escB (leastS S).toNat else if cntS S ≤ 128 then 91 :: insideB S ++ [93] else 91 :: 94 :: insideB (notS S) ++ [93]
theorem insideB_len (S : Nat → Nat) : (insideB S).length ≤ 2304 := by
  have h1 := rangesB_len (rangesS S)
  have h2 := rangesS_len S
  unfold insideB; omega
theorem u8_of (n : Nat) (h : n < 256) : IntKind.u8.wrap (n : Int) = n := IntWalk.u8_in _ (by omega)
set_option maxHeartbeats 2000000 in
set_option maxRecDepth 100000 in
theorem text_c (S : Nat → Nat) (hS : okS S) (w : World) (hT : TabAt 0 Lib.deBruijn64tab w) : Calls Tryd.prog 16 #[setV S] w fun e w' => e = .returned (.string ⟨(textB S).toArray⟩) ∧ Below w.heap.size w w' := by
  have HS := Lib.hid hS
  have HT := Lib.hid hT
  have il := insideB_len S
  have il2 := insideB_len (notS S)
  clear hS hT
  have CC := count_c S HS.out
  have LC := least_c S HS.out
  have IC := inside_c S HS.out
  have NC := not_c S HS.out
  have INC := inside_c (notS S) not_ok
  rw [show (fun i => 18446744073709551615 - S i) = notS S from rfl] at NC
  unfold setV at CC LC IC NC ⊢
  by_cases h256 : cntS S = 256
  · have t1 : ((cntS S : Int) == 256) = true := by simp; omega
    have X := Lib.hid (show textB S = [46] by unfold textB; rw [if_pos h256])
    clear h256
    go_enter Tryd.func16, Tryd.ntmps16
    go_wp2_with fail
    refine (CC _).mono ?_; rintro e w1 ⟨rfl, k1⟩
    have W1 := Lib.hid (below_step (below_alloc (Below.refl w.heap.size w) _) k1)
    go_wp2_with fail
    go_ret
    exact ⟨ret_str (by rw [X.out]), W1.out⟩
  · by_cases h1 : cntS S = 1
    · have t1 : ((cntS S : Int) == 256) = false := by simp; omega
      have t2 : ((cntS S : Int) == 1) = true := by simp; omega
      obtain ⟨m, hm, hm2⟩ : ∃ m : Nat, leastS S = (m : Nat) ∧ m < 256 := by
        rcases upto_head (has S) 256 with ⟨hu, _⟩ | ⟨k, l, _, h2, h3⟩
        · have := upto_cnt (has S) 256; rw [hu] at this; have e : cntS S = cntB (has S) 256 := rfl; simp at this; omega
        · exact ⟨k, h2, h3⟩
      have X := Lib.hid (show textB S = escB m by unfold textB; rw [if_neg h256, if_pos h1, hm, Int.toNat_natCast])
      rw [hm] at LC
      have U := u8_of m hm2
      clear h256 h1 hm
      go_enter Tryd.func16, Tryd.ntmps16
      go_wp2_with fail
      refine (CC _).mono ?_; rintro e w1 ⟨rfl, k1⟩
      have W1 := Lib.hid (below_step (below_alloc (Below.refl w.heap.size w) _) k1)
      have c0 : w1.cell? ⟨w.heap.size, 0, none⟩ = some (.int .u64 (S 0)) := Blk.cell (Blk.below (Blk.made _ _ _) k1) 0
      have c1 : w1.cell? ⟨w.heap.size, 1, none⟩ = some (.int .u64 (S 1)) := Blk.cell (Blk.below (Blk.made _ _ _) k1) 1
      have c2 : w1.cell? ⟨w.heap.size, 2, none⟩ = some (.int .u64 (S 2)) := Blk.cell (Blk.below (Blk.made _ _ _) k1) 2
      have c3 : w1.cell? ⟨w.heap.size, 3, none⟩ = some (.int .u64 (S 3)) := Blk.cell (Blk.below (Blk.made _ _ _) k1) 3
      clear k1
      go_wp2_with fail
      refine (LC _ (TabAt.below HT.out W1.out)).mono ?_; rintro e w2 ⟨rfl, k2⟩
      have W2 := Lib.hid (below_step W1.out k2)
      clear k2
      go_wp2_with fail
      refine (esc_c m hm2 _).mono ?_; rintro e w3 ⟨rfl, k3⟩
      have W3 := Lib.hid (below_step W2.out k3)
      clear k3
      go_wp2_with fail
      go_ret
      exact ⟨ret_str (by rw [X.out]), W3.out⟩
    · have t1 : ((cntS S : Int) == 256) = false := by simp; omega
      have t2 : ((cntS S : Int) == 1) = false := by simp; omega
      by_cases h128 : cntS S ≤ 128
      · have t3 : decide ((cntS S : Int) ≤ 128) = true := by simp; omega
        have X := Lib.hid (show (⟨#[91]⟩ : ByteArray) ++ ⟨(insideB S).toArray⟩ ++ ⟨#[93]⟩ = ⟨(textB S).toArray⟩ by
          unfold textB; rw [if_neg h256, if_neg h1, if_pos h128, show (⟨#[91]⟩ : ByteArray) = ⟨[91].toArray⟩ from rfl, show (⟨#[93]⟩ : ByteArray) = ⟨[93].toArray⟩ from rfl, mk_app, mk_app]; rfl)
        clear h256 h1 h128
        go_enter Tryd.func16, Tryd.ntmps16
        go_wp2_with fail
        refine (CC _).mono ?_; rintro e w1 ⟨rfl, k1⟩
        have W1 := Lib.hid (below_step (below_alloc (Below.refl w.heap.size w) _) k1)
        have c0 : w1.cell? ⟨w.heap.size, 0, none⟩ = some (.int .u64 (S 0)) := Blk.cell (Blk.below (Blk.made _ _ _) k1) 0
        have c1 : w1.cell? ⟨w.heap.size, 1, none⟩ = some (.int .u64 (S 1)) := Blk.cell (Blk.below (Blk.made _ _ _) k1) 1
        have c2 : w1.cell? ⟨w.heap.size, 2, none⟩ = some (.int .u64 (S 2)) := Blk.cell (Blk.below (Blk.made _ _ _) k1) 2
        have c3 : w1.cell? ⟨w.heap.size, 3, none⟩ = some (.int .u64 (S 3)) := Blk.cell (Blk.below (Blk.made _ _ _) k1) 3
        clear k1
        go_wp2_with fail
        refine (IC _).mono ?_; rintro e w2 ⟨rfl, k2⟩
        have W2 := Lib.hid (below_step W1.out k2)
        clear k2
        go_wp2_with fail
        go_ret
        exact ⟨ret_str (by rw [X.out]), W2.out⟩
      · have t3 : decide ((cntS S : Int) ≤ 128) = false := by simp; omega
        have X := Lib.hid (show (⟨#[91, 94]⟩ : ByteArray) ++ ⟨(insideB (notS S)).toArray⟩ ++ ⟨#[93]⟩ = ⟨(textB S).toArray⟩ by
          unfold textB; rw [if_neg h256, if_neg h1, if_neg h128, show (⟨#[91, 94]⟩ : ByteArray) = ⟨[91, 94].toArray⟩ from rfl, show (⟨#[93]⟩ : ByteArray) = ⟨[93].toArray⟩ from rfl, mk_app, mk_app]; rfl)
        clear h256 h1 h128
        go_enter Tryd.func16, Tryd.ntmps16
        go_wp2_with fail
        refine (CC _).mono ?_; rintro e w1 ⟨rfl, k1⟩
        have W1 := Lib.hid (below_step (below_alloc (Below.refl w.heap.size w) _) k1)
        have c0 : w1.cell? ⟨w.heap.size, 0, none⟩ = some (.int .u64 (S 0)) := Blk.cell (Blk.below (Blk.made _ _ _) k1) 0
        have c1 : w1.cell? ⟨w.heap.size, 1, none⟩ = some (.int .u64 (S 1)) := Blk.cell (Blk.below (Blk.made _ _ _) k1) 1
        have c2 : w1.cell? ⟨w.heap.size, 2, none⟩ = some (.int .u64 (S 2)) := Blk.cell (Blk.below (Blk.made _ _ _) k1) 2
        have c3 : w1.cell? ⟨w.heap.size, 3, none⟩ = some (.int .u64 (S 3)) := Blk.cell (Blk.below (Blk.made _ _ _) k1) 3
        clear k1
        go_wp2_with fail
        refine (NC _).mono ?_; rintro e w2 ⟨rfl, k2⟩
        have W2 := Lib.hid (below_step W1.out k2)
        clear k2
        go_wp2_with fail
        refine (INC _).mono ?_; rintro e w3 ⟨rfl, k3⟩
        have W3 := Lib.hid (below_step W2.out k3)
        clear k3
        go_wp2_with fail
        go_ret
        exact ⟨ret_str (by rw [X.out]), W3.out⟩
set_option maxHeartbeats 2000000 in
set_option maxRecDepth 100000 in
theorem rtext_c (S : Nat → Nat) (hS : okS S) (w : World) : Calls Tryd.prog 17 #[setV S] w fun e w' => e = .returned (.string ⟨(textB S).toArray⟩) ∧ Below w.heap.size w w' := by
  have HS := Lib.hid hS
  have il := insideB_len S
  have il2 := insideB_len (notS S)
  clear hS
  have CC := list_c S HS.out
  have IC := rinside_c S HS.out
  have NC := rnot_c S HS.out
  rw [rnot_v S HS.out] at NC
  have INC := rinside_c (notS S) not_ok
  have LL : (listS S).length = cntS S := upto_cnt _ _
  unfold setV at CC IC NC ⊢
  by_cases h256 : cntS S = 256
  · have t1 : (((listS S).length : Int) == 256) = true := by simp; omega
    have X := Lib.hid (show textB S = [46] by unfold textB; rw [if_pos h256])
    clear h256 LL
    go_enter Tryd.func17, Tryd.ntmps17
    go_wp2_with fail
    refine (CC _).mono ?_; rintro e w1 ⟨v, rfl, ho, k1⟩
    obtain ⟨ao, cap, rfl, hv⟩ := own_form ho
    have W1 := Lib.hid (below_step (below_alloc (Below.refl w.heap.size w) _) k1)
    clear ho k1 hv
    go_wp2_with fail
    go_ret
    exact ⟨ret_str (by rw [X.out]), W1.out⟩
  · by_cases h1 : cntS S = 1
    · have t1 : (((listS S).length : Int) == 256) = false := by simp; omega
      have t2 : (((listS S).length : Int) == 1) = true := by simp; omega
      obtain ⟨m, hm, hm2, hm3⟩ : ∃ m : Nat, leastS S = (m : Nat) ∧ m < 256 ∧ ∀ h, (listS S)[0]'h = m := by
        rcases upto_head (has S) 256 with ⟨hu, _⟩ | ⟨k, l, h2, h3, h4⟩
        · have := upto_cnt (has S) 256; rw [hu] at this; have e : cntS S = cntB (has S) 256 := rfl; simp at this; omega
        · exact ⟨k, h3, h4, fun h => by unfold listS; simp [h2]⟩
      have X := Lib.hid (show textB S = escB m by unfold textB; rw [if_neg h256, if_pos h1, hm, Int.toNat_natCast])
      have lp : 0 < (listS S).length := by omega
      have M3 := Lib.hid (hm3 lp)
      clear h256 h1 hm hm3 LL
      go_enter Tryd.func17, Tryd.ntmps17
      go_wp2_with fail
      refine (CC _).mono ?_; rintro e w1 ⟨v, rfl, ho, k1⟩
      obtain ⟨ao, cap, rfl, hv⟩ := own_form ho
      have W1 := Lib.hid (below_step (below_alloc (Below.refl w.heap.size w) _) k1)
      obtain ⟨g, rfl, hg0, hg1⟩ := hv lp
      have hi := int_at ho lp
      rw [M3.out] at hi
      clear ho k1 hg0 hg1
      go_wp2_with fail
      refine (resc_c m hm2 _).mono ?_; rintro e w3 ⟨rfl, k3⟩
      have W3 := Lib.hid (below_step W1.out k3)
      clear k3
      go_wp2_with fail
      go_ret
      exact ⟨ret_str (by rw [X.out]), W3.out⟩
    · have t1 : (((listS S).length : Int) == 256) = false := by simp; omega
      have t2 : (((listS S).length : Int) == 1) = false := by simp; omega
      by_cases h128 : cntS S ≤ 128
      · have t3 : decide (((listS S).length : Int) ≤ 128) = true := by simp; omega
        have X := Lib.hid (show (⟨#[91]⟩ : ByteArray) ++ ⟨(insideB S).toArray⟩ ++ ⟨#[93]⟩ = ⟨(textB S).toArray⟩ by
          unfold textB; rw [if_neg h256, if_neg h1, if_pos h128, show (⟨#[91]⟩ : ByteArray) = ⟨[91].toArray⟩ from rfl, show (⟨#[93]⟩ : ByteArray) = ⟨[93].toArray⟩ from rfl, mk_app, mk_app]; rfl)
        clear h256 h1 h128 LL
        go_enter Tryd.func17, Tryd.ntmps17
        go_wp2_with fail
        refine (CC _).mono ?_; rintro e w1 ⟨v, rfl, ho, k1⟩
        obtain ⟨ao, cap, rfl, hv⟩ := own_form ho
        have W1 := Lib.hid (below_step (below_alloc (Below.refl w.heap.size w) _) k1)
        clear ho hv
        have c0 : w1.cell? ⟨w.heap.size, 0, none⟩ = some (.int .u64 (S 0)) := Blk.cell (Blk.below (Blk.made _ _ _) k1) 0
        have c1 : w1.cell? ⟨w.heap.size, 1, none⟩ = some (.int .u64 (S 1)) := Blk.cell (Blk.below (Blk.made _ _ _) k1) 1
        have c2 : w1.cell? ⟨w.heap.size, 2, none⟩ = some (.int .u64 (S 2)) := Blk.cell (Blk.below (Blk.made _ _ _) k1) 2
        have c3 : w1.cell? ⟨w.heap.size, 3, none⟩ = some (.int .u64 (S 3)) := Blk.cell (Blk.below (Blk.made _ _ _) k1) 3
        clear k1
        go_wp2_with fail
        refine (IC _).mono ?_; rintro e w2 ⟨rfl, k2⟩
        have W2 := Lib.hid (below_step W1.out k2)
        clear k2
        go_wp2_with fail
        go_ret
        exact ⟨ret_str (by rw [X.out]), W2.out⟩
      · have t3 : decide (((listS S).length : Int) ≤ 128) = false := by simp; omega
        have X := Lib.hid (show (⟨#[91, 94]⟩ : ByteArray) ++ ⟨(insideB (notS S)).toArray⟩ ++ ⟨#[93]⟩ = ⟨(textB S).toArray⟩ by
          unfold textB; rw [if_neg h256, if_neg h1, if_neg h128, show (⟨#[91, 94]⟩ : ByteArray) = ⟨[91, 94].toArray⟩ from rfl, show (⟨#[93]⟩ : ByteArray) = ⟨[93].toArray⟩ from rfl, mk_app, mk_app]; rfl)
        clear h256 h1 h128 LL
        go_enter Tryd.func17, Tryd.ntmps17
        go_wp2_with fail
        refine (CC _).mono ?_; rintro e w1 ⟨v, rfl, ho, k1⟩
        obtain ⟨ao, cap, rfl, hv⟩ := own_form ho
        have W1 := Lib.hid (below_step (below_alloc (Below.refl w.heap.size w) _) k1)
        clear ho hv
        have c0 : w1.cell? ⟨w.heap.size, 0, none⟩ = some (.int .u64 (S 0)) := Blk.cell (Blk.below (Blk.made _ _ _) k1) 0
        have c1 : w1.cell? ⟨w.heap.size, 1, none⟩ = some (.int .u64 (S 1)) := Blk.cell (Blk.below (Blk.made _ _ _) k1) 1
        have c2 : w1.cell? ⟨w.heap.size, 2, none⟩ = some (.int .u64 (S 2)) := Blk.cell (Blk.below (Blk.made _ _ _) k1) 2
        have c3 : w1.cell? ⟨w.heap.size, 3, none⟩ = some (.int .u64 (S 3)) := Blk.cell (Blk.below (Blk.made _ _ _) k1) 3
        clear k1
        go_wp2_with fail
        refine (NC _).mono ?_; rintro e w2 ⟨rfl, k2⟩
        have W2 := Lib.hid (below_step W1.out k2)
        clear k2
        go_wp2_with fail
        refine (INC _).mono ?_; rintro e w3 ⟨rfl, k3⟩
        have W3 := Lib.hid (below_step W2.out k3)
        clear k3
        go_wp2_with fail
        go_ret
        exact ⟨ret_str (by rw [X.out]), W3.out⟩
end Go.Proofs.YtgcbcmgadllhlaaDoor
