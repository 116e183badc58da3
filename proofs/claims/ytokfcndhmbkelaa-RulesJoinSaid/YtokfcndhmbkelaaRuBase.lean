/- Letters, names, lines: the small functions of layer 6. -/
import Derived.Test.YtokfcndhmbkelaaRows
import Derived.Test.YtokfcndhmbkelaaKit
import Derived.WalkKit
import Derived.WalkSpells
import Derived.WalkLawsBesides
import Derived.Lib.Hide
import Derived.RegionTactic
import Derived.Deep.QuietTactic
import Derived.BigQuiet
import Derived.Laws.BitsAllLaws
import Derived.LoopN
import Derived.Outline
import Derived.Lib.Strings
import Derived.Lib.Walk
namespace Go.Proofs.Ytokfcndhmbkelaa
open Go.RowKit
def letB (b : Nat) : Bool := (decide (97 ≤ b) && decide (b ≤ 122)) || (decide (65 ≤ b) && decide (b ≤ 90)) || (decide (48 ≤ b) && decide (b ≤ 57)) || decide (b = 95)
set_option maxRecDepth 100000 in
theorem or_low : ∀ b, b < 256 → bits BinOp.or IntKind.u8 ((b : Nat) : Int) 32 = ((b ||| 32 : Nat) : Int) := by decide +kernel
set_option maxRecDepth 100000 in
theorem let_eq : ∀ b, b < 256 → (decide (b = 95) || ((decide (48 ≤ b) && decide (b ≤ 57)) || (decide (97 ≤ b ||| 32) && decide (b ||| 32 ≤ 122)))) = letB b := by decide +kernel
set_option maxHeartbeats 1000000 in
theorem rletter_c (b : Nat) (w : World) : Calls Try.prog 26 #[.int .u8 b] w fun e w' => e = .returned (.bool (letB b)) ∧ w = w' := by
  go_enter Try.func26, Try.ntmps26
  go_wp2
  all_goals
    go_ret
    refine ⟨ret_bool ?_, rfl⟩
    rw [Bool.eq_iff_iff]
    unfold letB
    simp
    try omega
set_option maxHeartbeats 1000000 in
theorem letter_c (b : Nat) (hb : b < 256) (w : World) : Calls Try.prog 28 #[.int .u8 b] w fun e w' => e = .returned (.bool (letB b)) ∧ w = w' := by
  have R := Lib.hid (let_eq b hb)
  have hq : bits BinOp.or IntKind.u8 (b : Int) 32 = ((b ||| 32 : Nat) : Int) := or_low b hb
  go_enter Try.func28, Try.ntmps28
  generalize b ||| 32 = q at hq R
  go_wp2
  all_goals
    go_ret
    refine ⟨ret_bool ?_, rfl⟩
    have r := R.out
    rw [← r, Bool.eq_iff_iff]
    simp
    try omega
/-- A string by its bytes. -/
def str (l : List UInt8) : Value := .string ⟨l.toArray⟩
def nth (l : List UInt8) (i : Nat) : Nat := (l.getD i 0).toNat
theorem nth_lt (l : List UInt8) (i : Nat) : nth l i < 256 := UInt8.toNat_lt _
/-- How many of the first bytes are letters, no more than n. -/
def headN : Nat → List UInt8 → Nat
  | 0, _ => 0
  | _ + 1, [] => 0
  | n + 1, c :: r => if letB c.toNat then headN n r + 1 else 0
theorem nth_get {l : List UInt8} {k : Nat} (h : k < l.length) : nth l k = l[k].toNat := by
  unfold nth; rw [List.getD_eq_getElem?_getD, List.getElem?_eq_getElem h]; rfl
theorem headN_nil : ∀ n, headN n [] = 0
  | 0 => rfl
  | _ + 1 => rfl
theorem headN_stop (l : List UInt8) (n k : Nat) (h : n = k ∨ l.length ≤ k ∨ (k < l.length ∧ letB (nth l k) = false)) : headN (n - k) (l.drop k) = 0 := by
  rcases h with h | h | ⟨h, h2⟩
  · subst h; rw [Nat.sub_self]; rfl
  · rw [List.drop_eq_nil_of_le h, headN_nil]
  · cases hn : n - k with
    | zero => rfl
    | succ m =>
      rw [List.drop_eq_getElem_cons h]
      rw [nth_get h] at h2
      show (if letB _ = true then _ else _) = _
      rw [if_neg (by rw [h2]; simp)]
theorem headN_step (l : List UInt8) (n k : Nat) (hk : k < n) (h : k < l.length) (h2 : letB (nth l k) = true) : headN (n - k) (l.drop k) = headN (n - (k + 1)) (l.drop (k + 1)) + 1 := by
  rw [List.drop_eq_getElem_cons h, show n - k = (n - (k + 1)) + 1 from by omega]
  rw [nth_get h] at h2
  show (if letB _ = true then _ else _) = _
  rw [if_pos h2]
theorem headN_le : ∀ n l, headN n l ≤ n ∧ headN n l ≤ l.length
  | 0, _ => ⟨Nat.le_refl _, Nat.zero_le _⟩
  | n + 1, [] => ⟨Nat.zero_le _, Nat.zero_le _⟩
  | n + 1, c :: r => by
    have := headN_le n r
    show (if letB _ = true then _ else _) ≤ _ ∧ (if letB _ = true then _ else _) ≤ _
    rw [List.length_cons]
    split <;> omega
theorem mk_size (l : List UInt8) : (ByteArray.mk l.toArray).size = l.length := by show l.toArray.size = _; simp
theorem mk_get (l : List UInt8) (k : Nat) (h : k < (ByteArray.mk l.toArray).size) : ((ByteArray.mk l.toArray)[k]).toNat = nth l k := by
  rw [mk_size] at h
  unfold nth
  rw [List.getD_eq_getElem?_getD, List.getElem?_eq_getElem h]
  rfl
set_option maxHeartbeats 1000000 in
theorem head_c (l : List UInt8) (hl : l.length ≤ 1000000) (w : World) : Calls Try.prog 17 #[str l] w fun e w' => e = .returned (.int .i64 (headN 12 l)) ∧ w = w' := by
  unfold str
  have hs := mk_size l
  have hg := mk_get l
  generalize (ByteArray.mk l.toArray) = s at *
  have HG := Lib.hid hg
  have HS := Lib.hid hs
  have hsm : s.size ≤ 1000000 := by omega
  clear hg hs
  go_enter Try.func17, Try.ntmps17
  go_wp2_with fail
  go_loop [3] (fun i => ∃ k : Nat, k ≤ 12 ∧ k ≤ l.length ∧ i = .int .i64 k ∧ headN 12 l = k + headN (12 - k) (l.drop k)) (fun i => 12 - (intOf i).toNat)
  case atStart => exact ⟨0, by omega, by omega, rfl, by simp⟩
  case round =>
    obtain ⟨k, hk, hk2, rfl, hr⟩ := hrel
    have HR := Lib.hid hr
    have hss := HS.out
    clear hr
    by_cases hlt : k < 12 ∧ k < s.size
    · obtain ⟨h1, h2⟩ := hlt
      have t1 : decide ((k : Int) < min (s.size : Int) 12) = true := by simp; omega
      have e1 := HG.out k h2
      have hlb := nth_lt l k
      cases hb : letB (nth l k) with
      | true =>
        have HX := Lib.hid (headN_step l 12 k h1 (by omega) hb)
        have LC := letter_c (nth l k) hlb w
        rw [hb] at LC
        have LC' := Lib.hid LC
        clear LC hb hlb hss
        go_wp2_with fail
        refine LC'.out.mono ?_; rintro e w1 ⟨rfl, rfl⟩
        clear e1
        go_wp2_with fail
        go_round
        case rel => exact ⟨k + 1, by omega, by have := HS.out; omega, by go_num, by rw [HR.out, HX.out]; omega⟩
        case measure => simp [intOf]; omega
      | false =>
        have HX := Lib.hid (headN_stop l 12 k (.inr (.inr ⟨by omega, hb⟩)))
        have LC := letter_c (nth l k) hlb w
        rw [hb] at LC
        have LC' := Lib.hid LC
        clear LC hb hlb hss
        go_wp2_with fail
        refine LC'.out.mono ?_; rintro e w1 ⟨rfl, rfl⟩
        clear e1
        go_wp2_with fail
        go_ret
        exact ⟨ret_int (by rw [HR.out, HX.out]; rfl), rfl⟩
    · have t1 : decide ((k : Int) < min (s.size : Int) 12) = false := by simp; omega
      have HX := Lib.hid (headN_stop l 12 k (by omega))
      clear hss
      go_wp2_with fail
      go_ret
      exact ⟨ret_int (by rw [HR.out, HX.out]; rfl), rfl⟩
/-- May it be a name? -/
def nameB (l : List UInt8) : Bool := !l.isEmpty && (headN 12 l == l.length)
theorem str_eq_nil (l : List UInt8) : ((⟨l.toArray⟩ : ByteArray).toList) = l := by rw [ByteArray.toList_eq]
set_option maxHeartbeats 1000000 in
theorem name_c (l : List UInt8) (hl : l.length ≤ 1000000) (w : World) : Calls Try.prog 15 #[str l] w fun e w' => e = .returned (.bool (nameB l)) ∧ w = w' := by
  have HC := head_c l hl w
  unfold str at HC ⊢
  have hs := mk_size l
  have hne : (ByteArray.mk l.toArray).toList = l := str_eq_nil l
  generalize (ByteArray.mk l.toArray) = s at *
  have HC' := Lib.hid HC
  have HS := Lib.hid hs
  have hsm : s.size ≤ 1000000 := by omega
  clear HC
  cases hl0 : l.isEmpty with
  | true =>
    have X := Lib.hid (show nameB l = false by unfold nameB; rw [hl0]; rfl)
    have h1 : s.toList.isEmpty = true := by rw [hne]; exact hl0
    have h2 : s.toList = [] := by rw [hne]; exact List.isEmpty_iff.1 hl0
    clear hl0 hne hs h1
    go_enter Try.func15, Try.ntmps15
    go_wp2_with fail
    go_ret
    exact ⟨ret_bool (by rw [X.out]), rfl⟩
  | false =>
    have X := Lib.hid (show nameB l = (headN 12 l == l.length) by unfold nameB; rw [hl0]; rfl)
    have h1 : s.toList.isEmpty = false := by rw [hne]; exact hl0
    have E := Lib.hid (show (((headN 12 l : Nat) : Int) == (s.size : Int)) = (headN 12 l == l.length) by rw [hs, Bool.eq_iff_iff]; simp; omega)
    clear hl0 hne hs
    go_enter Try.func15, Try.ntmps15
    go_wp2_with fail
    refine HC'.out.mono ?_; rintro e w1 ⟨rfl, rfl⟩
    go_wp2_with fail
    go_ret
    exact ⟨ret_bool (by rw [X.out, ← E.out]), rfl⟩
def allB (l : List UInt8) : Bool := l.all fun c => letB c.toNat
theorem head_all : ∀ n l, (headN n l = l.length) ↔ (l.length ≤ n ∧ allB l = true)
  | 0, l => by
    show 0 = l.length ↔ _
    constructor
    · intro h
      have : l = [] := List.eq_nil_of_length_eq_zero h.symm
      subst this; exact ⟨Nat.le_refl _, rfl⟩
    · rintro ⟨h, _⟩; omega
  | n + 1, [] => by simp [headN, allB]
  | n + 1, c :: r => by
    have ih := head_all n r
    show (if letB c.toNat = true then headN n r + 1 else 0) = r.length + 1 ↔ _
    unfold allB at *
    rw [List.length_cons, List.all_cons]
    cases hb : letB c.toNat with
    | true =>
      rw [if_pos rfl, Bool.true_and]
      constructor
      · intro h
        have := ih.1 (by omega)
        exact ⟨by omega, this.2⟩
      · rintro ⟨h1, h2⟩
        rw [ih.2 ⟨by omega, h2⟩]
    | false =>
      rw [if_neg (by simp), Bool.false_and]
      constructor
      · intro h; omega
      · rintro ⟨_, h⟩; cases h
theorem nameB_eq (l : List UInt8) : nameB l = (decide (1 ≤ l.length) && (decide (l.length ≤ 12) && allB l)) := by
  unfold nameB
  rw [Bool.eq_iff_iff]
  have h := head_all 12 l
  cases l with
  | nil => simp
  | cons c r =>
    simp only [List.isEmpty_cons, Bool.not_false, Bool.true_and, beq_iff_eq, Bool.and_eq_true, decide_eq_true_eq]
    rw [h]
    simp
set_option maxHeartbeats 1000000 in
theorem rname_c (l : List UInt8) (hl : l.length ≤ 1000000) (w : World) : Calls Try.prog 14 #[str l] w fun e w' => e = .returned (.bool (nameB l)) ∧ w = w' := by
  unfold str
  have hs := mk_size l
  have hg := mk_get l
  generalize (ByteArray.mk l.toArray) = s at *
  have HG := Lib.hid hg
  have HS := Lib.hid hs
  have hsm : s.size ≤ 1000000 := by omega
  clear hg hs
  go_enter Try.func14, Try.ntmps14
  go_wp2_with fail
  go_loop [3] (fun i => ∃ k : Nat, k ≤ l.length ∧ i = .int .i64 k ∧ allB (l.take k) = true) (fun i => l.length - (intOf i).toNat)
  case atStart => exact ⟨0, by omega, rfl, rfl⟩
  case round =>
    obtain ⟨k, hk, rfl, hr⟩ := hrel
    have HR := Lib.hid hr
    have hss := HS.out
    clear hr
    by_cases hlt : k < l.length
    · have h2 : k < s.size := by omega
      have e1 := HG.out k h2
      have hlb := nth_lt l k
      have NG := Lib.hid (nth_get hlt)
      have RC := rletter_c (nth l k) w
      have t1 : decide (k < s.size) = true := by simp; omega
      have TK := Lib.hid (show allB (l.take (k + 1)) = (allB (l.take k) && letB (nth l k)) by unfold allB; rw [List.take_succ_eq_append_getElem hlt, List.all_append, NG.out]; simp)
      cases hb : letB (nth l k) with
      | true =>
        rw [hb] at RC
        have RC' := Lib.hid RC
        have TK2 := Lib.hid (show allB (l.take (k + 1)) = true by rw [TK.out, HR.out, hb]; rfl)
        clear RC hb hlb hss
        go_wp2_with fail
        refine RC'.out.mono ?_; rintro e w1 ⟨rfl, rfl⟩
        clear e1
        go_wp2_with fail
        go_round
        case rel => exact ⟨k + 1, by omega, by go_num, TK2.out⟩
        case measure => simp [intOf]; omega
      | false =>
        rw [hb] at RC
        have RC' := Lib.hid RC
        have X := Lib.hid (show nameB l = false by
          rw [nameB_eq]
          have : allB l = false := by
            cases ha : allB l with
            | false => rfl
            | true =>
              unfold allB at ha
              have := List.all_eq_true.1 ha l[k] (List.getElem_mem hlt)
              rw [← NG.out, hb] at this; cases this
          rw [this]; simp)
        clear RC hb hlb hss
        go_wp2_with fail
        refine RC'.out.mono ?_; rintro e w1 ⟨rfl, rfl⟩
        clear e1
        go_wp2_with fail
        go_ret
        exact ⟨ret_bool (by rw [X.out]), rfl⟩
    · have e : k = l.length := by omega
      have t1 : decide (k < s.size) = false := by simp; omega
      have X := Lib.hid (show nameB l = (decide (1 ≤ l.length) && decide (l.length ≤ 12)) by
        have := HR.out
        rw [e, List.take_length] at this
        rw [nameB_eq, this]; simp)
      by_cases h1 : 1 ≤ s.size
      · have t2 : decide ((1 : Int) ≤ (s.size : Int)) = true := by simp; omega
        have X2 := Lib.hid (show nameB l = decide ((s.size : Int) ≤ 12) by rw [X.out, decide_eq_true (by omega : 1 ≤ l.length), Bool.true_and, decide_eq_decide]; omega)
        clear hss e
        go_wp2_with fail
        go_ret
        exact ⟨ret_bool (by rw [X2.out]), rfl⟩
      · have t2 : decide ((1 : Int) ≤ (s.size : Int)) = false := by simp; omega
        have X2 := Lib.hid (show nameB l = false by rw [X.out, decide_eq_false (by omega : ¬ 1 ≤ l.length), Bool.false_and])
        clear hss e
        go_wp2_with fail
        go_ret
        exact ⟨ret_bool (by rw [X2.out]), rfl⟩
end Go.Proofs.Ytokfcndhmbkelaa
