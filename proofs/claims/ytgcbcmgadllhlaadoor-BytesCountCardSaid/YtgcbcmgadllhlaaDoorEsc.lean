/- The walks of a byte's text. -/
import Derived.Test.YtgcbcmgadllhlaaDoorKit
import Derived.Test.YtgcbcmgadllhlaaDoorShelf
import Derived.WalkKit
import Derived.WalkSpells
import Derived.WalkLawsBesides
import Derived.Lib.Hide
import Derived.RegionTactic
import Derived.Deep.QuietTactic
import Derived.BigQuiet
import Derived.Laws.BitsAllLaws
import Derived.LoopN
import Derived.Outline
namespace Go.Proofs.YtgcbcmgadllhlaaDoor
open Go.RowKit
def signsS : List UInt8 := [32, 33, 34, 35, 37, 38, 39, 44, 47, 58, 59, 60, 61, 62, 64, 95, 96, 126]
/-- Does a byte stand for itself? -/
def plainB (b : Nat) : Bool := (decide (97 ≤ b) && decide (b ≤ 122)) || (decide (65 ≤ b) && decide (b ≤ 90)) || (decide (48 ≤ b) && decide (b ≤ 57)) || signsS.contains b.toUInt8
set_option maxRecDepth 100000 in
theorem plain_eq : ∀ b, b < 256 → ((decide (97 ≤ b ||| 32) && decide (b ||| 32 ≤ 122)) || (decide (48 ≤ b) && decide (b ≤ 57)) || decide (0 ≤ Lib.indexByte signsS b.toUInt8)) = plainB b := by decide +kernel
set_option maxRecDepth 100000 in
theorem or_low : ∀ b, b < 256 → bits BinOp.or IntKind.u8 ((b : Nat) : Int) 32 = ((b ||| 32 : Nat) : Int) := by decide +kernel
set_option maxHeartbeats 1000000 in
set_option maxRecDepth 100000 in
theorem plain_c (b : Nat) (hb : b < 256) (w : World) : Calls Tryd.prog 30 #[.int .u8 b] w fun e w' => e = .returned (.bool (plainB b)) ∧ w' = w := by
  have R := Lib.hid (plain_eq b hb)
  have hq : bits BinOp.or IntKind.u8 (b : Int) 32 = ((b ||| 32 : Nat) : Int) := or_low b hb
  have hn : ((b : Int)).toNat.toUInt8 = b.toUInt8 := by rw [Int.toNat_natCast]
  go_enter Tryd.func30, Tryd.ntmps30
  generalize b ||| 32 = q at hq R
  by_cases p1 : 97 ≤ q
  · have t1 : decide ((97 : Int) ≤ (q : Int)) = true := by simp; omega
    by_cases p2 : q ≤ 122
    · have t2 : decide ((q : Int) ≤ 122) = true := by simp; omega
      have X := Lib.hid (show plainB b = true by rw [← R.out]; simp [p1, p2])
      clear R
      go_wp2
      go_ret
      exact ⟨ret_bool (by rw [X.out]), rfl⟩
    · have t2 : decide ((q : Int) ≤ 122) = false := by simp; omega
      by_cases d1 : 48 ≤ b
      · have s1 : decide ((48 : Int) ≤ (b : Int)) = true := by simp; omega
        by_cases d2 : b ≤ 57
        · have s2 : decide ((b : Int) ≤ 57) = true := by simp; omega
          have X := Lib.hid (show plainB b = true by rw [← R.out]; simp [p2, d1, d2])
          clear R
          go_wp2
          go_ret
          exact ⟨ret_bool (by rw [X.out]), rfl⟩
        · have s2 : decide ((b : Int) ≤ 57) = false := by simp; omega
          rcases hi : decide (0 ≤ Lib.indexByte signsS b.toUInt8) with _ | _
          · have n0 : decide (0 ≤ Lib.indexByte signsS b.toUInt8) = false := hi
            have X := Lib.hid (show plainB b = false by rw [← R.out]; simp [p2, d2, n0])
            clear R
            go_wp2_with fail
            refine (Tryd.strings_IndexByte _ _ _).mono ?_; rintro e w1 ⟨rfl, rfl⟩
            go_wp2
            go_ret
            exact ⟨ret_bool (by rw [X.out]; exact n0), rfl⟩
          · have n1 : decide (0 ≤ Lib.indexByte signsS b.toUInt8) = true := hi
            have X := Lib.hid (show plainB b = true by rw [← R.out]; simp [p2, d2, n1])
            clear R
            go_wp2_with fail
            refine (Tryd.strings_IndexByte _ _ _).mono ?_; rintro e w1 ⟨rfl, rfl⟩
            go_wp2
            go_ret
            exact ⟨ret_bool (by rw [X.out]; exact n1), rfl⟩
      · have s1 : decide ((48 : Int) ≤ (b : Int)) = false := by simp; omega
        rcases hi : decide (0 ≤ Lib.indexByte signsS b.toUInt8) with _ | _
        · have n0 : decide (0 ≤ Lib.indexByte signsS b.toUInt8) = false := hi
          have X := Lib.hid (show plainB b = false by rw [← R.out]; simp [p2, d1, n0])
          clear R
          go_wp2_with fail
          refine (Tryd.strings_IndexByte _ _ _).mono ?_; rintro e w1 ⟨rfl, rfl⟩
          go_wp2
          go_ret
          exact ⟨ret_bool (by rw [X.out]; exact n0), rfl⟩
        · have n1 : decide (0 ≤ Lib.indexByte signsS b.toUInt8) = true := hi
          have X := Lib.hid (show plainB b = true by rw [← R.out]; simp [p2, d1, n1])
          clear R
          go_wp2_with fail
          refine (Tryd.strings_IndexByte _ _ _).mono ?_; rintro e w1 ⟨rfl, rfl⟩
          go_wp2
          go_ret
          exact ⟨ret_bool (by rw [X.out]; exact n1), rfl⟩
  · have t1 : decide ((97 : Int) ≤ (q : Int)) = false := by simp; omega
    by_cases d1 : 48 ≤ b
    · have s1 : decide ((48 : Int) ≤ (b : Int)) = true := by simp; omega
      by_cases d2 : b ≤ 57
      · have s2 : decide ((b : Int) ≤ 57) = true := by simp; omega
        have X := Lib.hid (show plainB b = true by rw [← R.out]; simp [p1, d1, d2])
        clear R
        go_wp2
        go_ret
        exact ⟨ret_bool (by rw [X.out]), rfl⟩
      · have s2 : decide ((b : Int) ≤ 57) = false := by simp; omega
        rcases hi : decide (0 ≤ Lib.indexByte signsS b.toUInt8) with _ | _
        · have n0 : decide (0 ≤ Lib.indexByte signsS b.toUInt8) = false := hi
          have X := Lib.hid (show plainB b = false by rw [← R.out]; simp [p1, d2, n0])
          clear R
          go_wp2_with fail
          refine (Tryd.strings_IndexByte _ _ _).mono ?_; rintro e w1 ⟨rfl, rfl⟩
          go_wp2
          go_ret
          exact ⟨ret_bool (by rw [X.out]; exact n0), rfl⟩
        · have n1 : decide (0 ≤ Lib.indexByte signsS b.toUInt8) = true := hi
          have X := Lib.hid (show plainB b = true by rw [← R.out]; simp [p1, d2, n1])
          clear R
          go_wp2_with fail
          refine (Tryd.strings_IndexByte _ _ _).mono ?_; rintro e w1 ⟨rfl, rfl⟩
          go_wp2
          go_ret
          exact ⟨ret_bool (by rw [X.out]; exact n1), rfl⟩
    · have s1 : decide ((48 : Int) ≤ (b : Int)) = false := by simp; omega
      rcases hi : decide (0 ≤ Lib.indexByte signsS b.toUInt8) with _ | _
      · have n0 : decide (0 ≤ Lib.indexByte signsS b.toUInt8) = false := hi
        have X := Lib.hid (show plainB b = false by rw [← R.out]; simp [p1, d1, n0])
        clear R
        go_wp2_with fail
        refine (Tryd.strings_IndexByte _ _ _).mono ?_; rintro e w1 ⟨rfl, rfl⟩
        go_wp2
        go_ret
        exact ⟨ret_bool (by rw [X.out]; exact n0), rfl⟩
      · have n1 : decide (0 ≤ Lib.indexByte signsS b.toUInt8) = true := hi
        have X := Lib.hid (show plainB b = true by rw [← R.out]; simp [p1, d1, n1])
        clear R
        go_wp2_with fail
        refine (Tryd.strings_IndexByte _ _ _).mono ?_; rintro e w1 ⟨rfl, rfl⟩
        go_wp2
        go_ret
        exact ⟨ret_bool (by rw [X.out]; exact n1), rfl⟩
-- rest of plain
/-- A byte's text. -/
def hexS : List UInt8 := [48, 49, 50, 51, 52, 53, 54, 55, 56, 57, 97, 98, 99, 100, 101, 102]
def escB (b : Nat) : List UInt8 := if plainB b then [b.toUInt8] else [92, 120, hexS.getD (b / 16) 0, hexS.getD (b % 16) 0]
def escB_hex : Bool := (List.range 256).all fun b => (({ data := #[92, 120] } : ByteArray) ++ ({ data := #[48, 49, 50, 51, 52, 53, 54, 55, 56, 57, 97, 98, 99, 100, 101, 102] } : ByteArray).extract (b / 16) (b / 16 + 1) ++ ({ data := #[48, 49, 50, 51, 52, 53, 54, 55, 56, 57, 97, 98, 99, 100, 101, 102] } : ByteArray).extract (b % 16) (b % 16 + 1)).data.toList == [92, 120, hexS.getD (b / 16) 0, hexS.getD (b % 16) 0]
set_option maxRecDepth 100000 in
theorem escB_hex_all : escB_hex = true := by decide +kernel
theorem escB_text (b : Nat) (hb : b < 256) : ({ data := #[92, 120] } : ByteArray) ++ ({ data := #[48, 49, 50, 51, 52, 53, 54, 55, 56, 57, 97, 98, 99, 100, 101, 102] } : ByteArray).extract (b / 16) (b / 16 + 1) ++ ({ data := #[48, 49, 50, 51, 52, 53, 54, 55, 56, 57, 97, 98, 99, 100, 101, 102] } : ByteArray).extract (b % 16) (b % 16 + 1) = ⟨[92, 120, hexS.getD (b / 16) 0, hexS.getD (b % 16) 0].toArray⟩ := by
  have h := List.all_eq_true.1 escB_hex_all b (List.mem_range.2 hb)
  have h := eq_of_beq h
  rw [ByteArray.ext_iff]
  show _ = [92, 120, hexS.getD (b / 16) 0, hexS.getD (b % 16) 0].toArray
  rw [← h]
theorem u8_nat (b : Nat) (hb : b < 256) : ((b.toUInt8.toNat : Nat) : Int) = b := by
  rw [show b.toUInt8.toNat = b % 256 from rfl, Nat.mod_eq_of_lt hb]
theorem ret_str {a b : ByteArray} (h : a = b) : Ending.returned (.string a) = Ending.returned (.string b) := by rw [h]
theorem conv_one (b : Nat) (hb : b < 256) (w : World) : (convert 47 9 (.slice (some ⟨w.heap.size, 0, none⟩) 1 1)).run Tryd.prog (w.alloc (.cells #[.int .u8 b] 5)) = .ok (.string ⟨[b.toUInt8].toArray⟩) (w.alloc (.cells #[.int .u8 b] 5)) := by
  refine run_convert_bytes_back _ 47 9 5 _ 1 [b.toUInt8] Tryd.underlying47 Tryd.underlying5 Tryd.underlying9 ?_
  intro j hj
  have : j = 0 := by simp at hj; omega
  subst this
  simp only [List.getElem_cons_zero, u8_nat b hb]
  exact cell_one_new _ _ _ 0 _ rfl
set_option maxHeartbeats 1000000 in
set_option maxRecDepth 100000 in
theorem esc_c (b : Nat) (hb : b < 256) (w : World) : Calls Tryd.prog 18 #[.int .u8 b] w fun e w' => e = .returned (.string ⟨(escB b).toArray⟩) ∧ Below w.heap.size w w' := by
  by_cases hp : plainB b = true
  · have X := Lib.hid (show escB b = [b.toUInt8] by unfold escB; rw [if_pos hp])
    have K := conv_one b hb
    go_enter Tryd.func18, Tryd.ntmps18
    go_wp2_with fail
    refine (plain_c b hb _).mono ?_; rintro e w1 ⟨rfl, rfl⟩
    go_wp2
    go_ret
    exact ⟨ret_str (by rw [X.out]), below_alloc (Below.refl _ _) _⟩
  · have hp : plainB b = false := by simpa using hp
    have X := Lib.hid (show escB b = [92, 120, hexS.getD (b / 16) 0, hexS.getD (b % 16) 0] by unfold escB; rw [if_neg (by rw [hp]; decide)])
    have Y := Lib.hid (escB_text b hb)
    go_enter Tryd.func18, Tryd.ntmps18
    go_wp2_with fail
    refine (plain_c b hb _).mono ?_; rintro e w1 ⟨rfl, rfl⟩
    go_wp2_with fail
    go_region
    go_wp2
    go_ret
    exact ⟨ret_str (by rw [X.out]; exact Y.out), below_draws (Below.refl _ _) _⟩


theorem int_true {p q : Prop} [Decidable p] [Decidable q] (h : p ↔ q) (hq : q) : decide p = true := by simp [h, hq]
theorem int_false {p q : Prop} [Decidable p] [Decidable q] (h : p ↔ q) (hq : ¬ q) : decide p = false := by simp [h, hq]
theorem sign_hit : ∀ k, k < 18 → ∀ b, b < 256 → ((signsS.getD k 0).toNat = b) → plainB b = true := by decide +kernel
theorem sign_at : ∀ k, (h : k < 18) → wrap64 (((({ data := #[32, 33, 34, 35, 37, 38, 39, 44, 47, 58, 59, 60, 61, 62, 64, 95, 96, 126] } : ByteArray)[k]'h).toNat : Nat) : Int) = (((signsS.getD k 0).toNat : Nat) : Int) := by decide +kernel
theorem sign_none (b : Nat) (hb : b < 256) (h1 : ¬(97 ≤ b ∧ b ≤ 122)) (h2 : ¬(65 ≤ b ∧ b ≤ 90)) (h3 : ¬(48 ≤ b ∧ b ≤ 57)) (h : ∀ j, j < 18 → (signsS.getD j 0).toNat ≠ b) : plainB b = false := by
  unfold plainB
  rcases hc : signsS.contains b.toUInt8 with _ | _
  · simp; omega
  · exfalso
    have hm : b.toUInt8 ∈ signsS := by simpa using hc
    obtain ⟨j, hj, hje⟩ := List.getElem_of_mem hm
    have hj' : j < 18 := hj
    refine h j hj' ?_
    rw [List.getD_eq_getElem?_getD, List.getElem?_eq_getElem hj, Option.getD_some, hje]
    show b % 256 = b
    omega
set_option maxHeartbeats 4000000 in
set_option maxRecDepth 100000 in
theorem rplain_c (b : Nat) (hb : b < 256) (w : World) : Calls Tryd.prog 31 #[.int .i64 b] w fun e w' => e = .returned (.bool (plainB b)) ∧ w' = w := by
  by_cases a1 : 97 ≤ b ∧ b ≤ 122
  · have s1 : decide ((97 : Int) ≤ (b : Int)) = true := by simp; omega
    have s2 : decide ((b : Int) ≤ 122) = true := by simp; omega
    have X := Lib.hid (show plainB b = true by unfold plainB; simp [a1])
    go_enter Tryd.func31, Tryd.ntmps31
    go_wp2
    go_ret
    exact ⟨ret_bool (by rw [X.out]), rfl⟩
  by_cases a2 : 65 ≤ b ∧ b ≤ 90
  · have s1 : decide ((97 : Int) ≤ (b : Int)) = false := by simp; omega
    have s2 : decide ((65 : Int) ≤ (b : Int)) = true := by simp; omega
    have s3 : decide ((b : Int) ≤ 90) = true := by simp; omega
    have X := Lib.hid (show plainB b = true by unfold plainB; simp [a2])
    go_enter Tryd.func31, Tryd.ntmps31
    go_wp2
    go_ret
    exact ⟨ret_bool (by rw [X.out]), rfl⟩
  by_cases a3 : 48 ≤ b ∧ b ≤ 57
  · have s1 : decide ((97 : Int) ≤ (b : Int)) = false := by simp; omega
    have s2 : decide ((65 : Int) ≤ (b : Int)) = false := by simp; omega
    have s3 : decide ((48 : Int) ≤ (b : Int)) = true := by simp; omega
    have s4 : decide ((b : Int) ≤ 57) = true := by simp; omega
    have X := Lib.hid (show plainB b = true by unfold plainB; simp [a3])
    go_enter Tryd.func31, Tryd.ntmps31
    go_wp2
    go_ret
    exact ⟨ret_bool (by rw [X.out]), rfl⟩
  have N := Lib.hid (sign_none b hb a1 a2 a3)
  have H := Lib.hid (fun k hk => sign_hit k hk b hb)
  have C : b < 48 ∨ (58 ≤ b ∧ b ≤ 64) ∨ (91 ≤ b ∧ b ≤ 96) ∨ 123 ≤ b := by omega
  clear a1 a2 a3
  go_enter Tryd.func31, Tryd.ntmps31
  have A := Lib.hid sign_at
  rcases C with c | c | c | c
  · have s1 : decide ((97 : Int) ≤ (b : Int)) = false := by simp; omega
    have s2 : decide ((65 : Int) ≤ (b : Int)) = false := by simp; omega
    have s3 : decide ((48 : Int) ≤ (b : Int)) = false := by simp; omega
    clear c hb
    go_wp2_with fail
    go_loopw [4] (fun i wr => ∃ k : Nat, k ≤ 18 ∧ i = .int .i64 k ∧ wr = w ∧ ∀ j, j < k → (signsS.getD j 0).toNat ≠ b) (fun i _ => 18 - (intOf i).toNat)
    case atStart => exact ⟨0, by omega, rfl, rfl, fun j hj => absurd hj (by omega)⟩
    case round =>
      obtain ⟨k, hk, rfl, rfl, hst⟩ := hrel
      have ST := Lib.hid hst
      clear hst
      by_cases hlt : k < 18
      · have t1 : decide ((k : Int) < 18) = true := by simp; omega
        by_cases hx : (signsS.getD k 0).toNat = b
        · have t2 : ∀ h, (wrap64 (((({ data := #[32, 33, 34, 35, 37, 38, 39, 44, 47, 58, 59, 60, 61, 62, 64, 95, 96, 126] } : ByteArray)[k]'h).toNat : Nat) : Int) == (b : Int)) = true := fun h => by rw [A.out k hlt, hx]; simp
          have HX := Lib.hid hx
          clear hx
          go_wp2
          go_ret
          exact ⟨ret_bool (by rw [H.out k hlt HX.out]), rfl⟩
        · have t2 : ∀ h, (wrap64 (((({ data := #[32, 33, 34, 35, 37, 38, 39, 44, 47, 58, 59, 60, 61, 62, 64, 95, 96, 126] } : ByteArray)[k]'h).toNat : Nat) : Int) == (b : Int)) = false := fun h => by rw [A.out k hlt, beq_eq_false_iff_ne]; omega
          have HX := Lib.hid hx
          clear hx
          go_wp2
          exact ⟨⟨k + 1, by omega, rfl, trivial, fun j hj => by
              rcases Nat.lt_succ_iff_lt_or_eq.1 hj with h | h
              · exact ST.out j h
              · rw [h]; exact HX.out⟩, by simp [intOf]; omega⟩
      · have t1 : decide ((k : Int) < 18) = false := by simp; omega
        have : k = 18 := by omega
        subst this
        go_wp2
        go_ret
        exact ⟨ret_bool (by rw [N.out ST.out]), rfl⟩
  · have s1 : decide ((97 : Int) ≤ (b : Int)) = false := by simp; omega
    have s2 : decide ((65 : Int) ≤ (b : Int)) = false := by simp; omega
    have s3 : decide ((48 : Int) ≤ (b : Int)) = true := by simp; omega
    have s7 : decide ((b : Int) ≤ 57) = false := by simp; omega
    clear c hb
    go_wp2_with fail
    go_loopw [4] (fun i wr => ∃ k : Nat, k ≤ 18 ∧ i = .int .i64 k ∧ wr = w ∧ ∀ j, j < k → (signsS.getD j 0).toNat ≠ b) (fun i _ => 18 - (intOf i).toNat)
    case atStart => exact ⟨0, by omega, rfl, rfl, fun j hj => absurd hj (by omega)⟩
    case round =>
      obtain ⟨k, hk, rfl, rfl, hst⟩ := hrel
      have ST := Lib.hid hst
      clear hst
      by_cases hlt : k < 18
      · have t1 : decide ((k : Int) < 18) = true := by simp; omega
        by_cases hx : (signsS.getD k 0).toNat = b
        · have t2 : ∀ h, (wrap64 (((({ data := #[32, 33, 34, 35, 37, 38, 39, 44, 47, 58, 59, 60, 61, 62, 64, 95, 96, 126] } : ByteArray)[k]'h).toNat : Nat) : Int) == (b : Int)) = true := fun h => by rw [A.out k hlt, hx]; simp
          have HX := Lib.hid hx
          clear hx
          go_wp2
          go_ret
          exact ⟨ret_bool (by rw [H.out k hlt HX.out]), rfl⟩
        · have t2 : ∀ h, (wrap64 (((({ data := #[32, 33, 34, 35, 37, 38, 39, 44, 47, 58, 59, 60, 61, 62, 64, 95, 96, 126] } : ByteArray)[k]'h).toNat : Nat) : Int) == (b : Int)) = false := fun h => by rw [A.out k hlt, beq_eq_false_iff_ne]; omega
          have HX := Lib.hid hx
          clear hx
          go_wp2
          exact ⟨⟨k + 1, by omega, rfl, trivial, fun j hj => by
              rcases Nat.lt_succ_iff_lt_or_eq.1 hj with h | h
              · exact ST.out j h
              · rw [h]; exact HX.out⟩, by simp [intOf]; omega⟩
      · have t1 : decide ((k : Int) < 18) = false := by simp; omega
        have : k = 18 := by omega
        subst this
        go_wp2
        go_ret
        exact ⟨ret_bool (by rw [N.out ST.out]), rfl⟩
  · have s1 : decide ((97 : Int) ≤ (b : Int)) = false := by simp; omega
    have s2 : decide ((65 : Int) ≤ (b : Int)) = true := by simp; omega
    have s6 : decide ((b : Int) ≤ 90) = false := by simp; omega
    have s3 : decide ((48 : Int) ≤ (b : Int)) = true := by simp; omega
    have s7 : decide ((b : Int) ≤ 57) = false := by simp; omega
    clear c hb
    go_wp2_with fail
    go_loopw [4] (fun i wr => ∃ k : Nat, k ≤ 18 ∧ i = .int .i64 k ∧ wr = w ∧ ∀ j, j < k → (signsS.getD j 0).toNat ≠ b) (fun i _ => 18 - (intOf i).toNat)
    case atStart => exact ⟨0, by omega, rfl, rfl, fun j hj => absurd hj (by omega)⟩
    case round =>
      obtain ⟨k, hk, rfl, rfl, hst⟩ := hrel
      have ST := Lib.hid hst
      clear hst
      by_cases hlt : k < 18
      · have t1 : decide ((k : Int) < 18) = true := by simp; omega
        by_cases hx : (signsS.getD k 0).toNat = b
        · have t2 : ∀ h, (wrap64 (((({ data := #[32, 33, 34, 35, 37, 38, 39, 44, 47, 58, 59, 60, 61, 62, 64, 95, 96, 126] } : ByteArray)[k]'h).toNat : Nat) : Int) == (b : Int)) = true := fun h => by rw [A.out k hlt, hx]; simp
          have HX := Lib.hid hx
          clear hx
          go_wp2
          go_ret
          exact ⟨ret_bool (by rw [H.out k hlt HX.out]), rfl⟩
        · have t2 : ∀ h, (wrap64 (((({ data := #[32, 33, 34, 35, 37, 38, 39, 44, 47, 58, 59, 60, 61, 62, 64, 95, 96, 126] } : ByteArray)[k]'h).toNat : Nat) : Int) == (b : Int)) = false := fun h => by rw [A.out k hlt, beq_eq_false_iff_ne]; omega
          have HX := Lib.hid hx
          clear hx
          go_wp2
          exact ⟨⟨k + 1, by omega, rfl, trivial, fun j hj => by
              rcases Nat.lt_succ_iff_lt_or_eq.1 hj with h | h
              · exact ST.out j h
              · rw [h]; exact HX.out⟩, by simp [intOf]; omega⟩
      · have t1 : decide ((k : Int) < 18) = false := by simp; omega
        have : k = 18 := by omega
        subst this
        go_wp2
        go_ret
        exact ⟨ret_bool (by rw [N.out ST.out]), rfl⟩
  · have s1 : decide ((97 : Int) ≤ (b : Int)) = true := by simp; omega
    have s5 : decide ((b : Int) ≤ 122) = false := by simp; omega
    have s2 : decide ((65 : Int) ≤ (b : Int)) = true := by simp; omega
    have s6 : decide ((b : Int) ≤ 90) = false := by simp; omega
    have s3 : decide ((48 : Int) ≤ (b : Int)) = true := by simp; omega
    have s7 : decide ((b : Int) ≤ 57) = false := by simp; omega
    clear c hb
    go_wp2_with fail
    go_loopw [4] (fun i wr => ∃ k : Nat, k ≤ 18 ∧ i = .int .i64 k ∧ wr = w ∧ ∀ j, j < k → (signsS.getD j 0).toNat ≠ b) (fun i _ => 18 - (intOf i).toNat)
    case atStart => exact ⟨0, by omega, rfl, rfl, fun j hj => absurd hj (by omega)⟩
    case round =>
      obtain ⟨k, hk, rfl, rfl, hst⟩ := hrel
      have ST := Lib.hid hst
      clear hst
      by_cases hlt : k < 18
      · have t1 : decide ((k : Int) < 18) = true := by simp; omega
        by_cases hx : (signsS.getD k 0).toNat = b
        · have t2 : ∀ h, (wrap64 (((({ data := #[32, 33, 34, 35, 37, 38, 39, 44, 47, 58, 59, 60, 61, 62, 64, 95, 96, 126] } : ByteArray)[k]'h).toNat : Nat) : Int) == (b : Int)) = true := fun h => by rw [A.out k hlt, hx]; simp
          have HX := Lib.hid hx
          clear hx
          go_wp2
          go_ret
          exact ⟨ret_bool (by rw [H.out k hlt HX.out]), rfl⟩
        · have t2 : ∀ h, (wrap64 (((({ data := #[32, 33, 34, 35, 37, 38, 39, 44, 47, 58, 59, 60, 61, 62, 64, 95, 96, 126] } : ByteArray)[k]'h).toNat : Nat) : Int) == (b : Int)) = false := fun h => by rw [A.out k hlt, beq_eq_false_iff_ne]; omega
          have HX := Lib.hid hx
          clear hx
          go_wp2
          exact ⟨⟨k + 1, by omega, rfl, trivial, fun j hj => by
              rcases Nat.lt_succ_iff_lt_or_eq.1 hj with h | h
              · exact ST.out j h
              · rw [h]; exact HX.out⟩, by simp [intOf]; omega⟩
      · have t1 : decide ((k : Int) < 18) = false := by simp; omega
        have : k = 18 := by omega
        subst this
        go_wp2
        go_ret
        exact ⟨ret_bool (by rw [N.out ST.out]), rfl⟩
theorem escB_rtext (b : Nat) (hb : b < 256) : ({ data := #[92, 120] } : ByteArray) ++ ({ data := #[48, 49, 50, 51, 52, 53, 54, 55, 56, 57, 97, 98, 99, 100, 101, 102] } : ByteArray).extract (b / 16) (b / 16 + 1) ++ ({ data := #[48, 49, 50, 51, 52, 53, 54, 55, 56, 57, 97, 98, 99, 100, 101, 102] } : ByteArray).extract (b % 16) (b % 16 + 1) = ⟨[92, 120, hexS.getD (b / 16) 0, hexS.getD (b % 16) 0].toArray⟩ := escB_text b hb
set_option maxHeartbeats 1000000 in
set_option maxRecDepth 100000 in
theorem resc_c (b : Nat) (hb : b < 256) (w : World) : Calls Tryd.prog 19 #[.int .i64 b] w fun e w' => e = .returned (.string ⟨(escB b).toArray⟩) ∧ Below w.heap.size w w' := by
  by_cases hp : plainB b = true
  · have X := Lib.hid (show escB b = [b.toUInt8] by unfold escB; rw [if_pos hp])
    have K := conv_one b hb
    go_enter Tryd.func19, Tryd.ntmps19
    go_wp2_with fail
    refine (rplain_c b hb _).mono ?_; rintro e w1 ⟨rfl, rfl⟩
    go_wp2
    go_ret
    exact ⟨ret_str (by rw [X.out]), below_alloc (Below.refl _ _) _⟩
  · have hp : plainB b = false := by simpa using hp
    have X := Lib.hid (show escB b = [92, 120, hexS.getD (b / 16) 0, hexS.getD (b % 16) 0] by unfold escB; rw [if_neg (by rw [hp]; decide)])
    have Y := Lib.hid (escB_rtext b hb)
    go_enter Tryd.func19, Tryd.ntmps19
    go_wp2_with fail
    refine (rplain_c b hb _).mono ?_; rintro e w1 ⟨rfl, rfl⟩
    go_wp2_with fail
    go_region
    go_wp2
    go_ret
    exact ⟨ret_str (by rw [X.out]; exact Y.out), below_draws (Below.refl _ _) _⟩
end Go.Proofs.YtgcbcmgadllhlaaDoor
