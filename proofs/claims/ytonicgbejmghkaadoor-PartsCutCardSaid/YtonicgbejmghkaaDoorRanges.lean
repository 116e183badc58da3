/- The walk of bytes256.Ranges. -/
import Derived.Test.YtonicgbejmghkaaDoorLists
namespace Go.Proofs.YtonicgbejmghkaaDoor
open Go.RowKit
/-- What holds of the list and the place at the outer loop's head. -/
def RgAt (S : Nat → Nat) (bx : Nat) (k : Nat) (v : Value) (wr : World) : Prop :=
  (k = 0 ∨ k = 256 ∨ has S (k - 1) = false ∨ has S k = false) ∧ Blk wr bx 35 (setCs S) ∧ wr.ownsRow (bx + 1) 57 2 v (runs (has S) k).length (pairs (runs (has S) k))
/-- What holds at the inner loop's head: the run that began at k has come to j. -/
def RgIn (S : Nat → Nat) (bx k j : Nat) (v : Value) (wr : World) : Prop :=
  has S j = true ∧ runs (has S) (j + 1) = runs (has S) k ++ [(k, j)] ∧ Blk wr bx 35 (setCs S) ∧ wr.ownsRow (bx + 1) 57 2 v (runs (has S) k).length (pairs (runs (has S) k))
def RgOut (S : Nat → Nat) (j : Nat) : Prop := j = 255 ∨ has S (j + 1) = false
set_option maxHeartbeats 1000000 in
set_option maxRecDepth 100000 in
theorem ranges_c (S : Nat → Nat) (hS : okS S) (w : World) : Calls Tryd.prog 28 #[setV S] w fun e w' => ∃ v, e = .returned v ∧ w'.ownsRow w.heap.size 57 2 v (rangesS S).length (pairs (rangesS S)) ∧ Below w.heap.size w w' := by
  have HS := Lib.hid hS
  obtain ⟨i0, hi, hz0, hz1, hz2⟩ := info_parts info_pair
  clear hS
  unfold setV
  go_enter Tryd.func28, Tryd.ntmps28
  go_wp2_with fail
  go_loopg [2, 3] 256 (fun gk v i wr => ∃ k : Nat, k ≤ 256 ∧ gk = 256 - k ∧ i = .int .i64 k ∧ RgAt S w.heap.size k v wr ∧ Below w.heap.size w wr)
  case atStart => exact ⟨0, by omega, rfl, rfl, ⟨.inl rfl, Blk.made _ _ _, World.ownsRow_nil _ _ _ _⟩, below_alloc (Below.refl _ _) _⟩
  case round =>
    obtain ⟨k, hk, hgk, rfl, hst, hw⟩ := hrel
    have hb := hst.2.1
    have c0 : wr.cell? ⟨w.heap.size, 0, none⟩ = some (.int .u64 (S 0)) := hb.cell 0
    have c1 : wr.cell? ⟨w.heap.size, 1, none⟩ = some (.int .u64 (S 1)) := hb.cell 1
    have c2 : wr.cell? ⟨w.heap.size, 2, none⟩ = some (.int .u64 (S 2)) := hb.cell 2
    have c3 : wr.cell? ⟨w.heap.size, 3, none⟩ = some (.int .u64 (S 3)) := hb.cell 3
    have HW := Lib.hid hw
    have HST := Lib.hid hst
    have GK := Lib.hid hgk
    clear hb hw hst hgk
    by_cases hlt : k < 256
    · go_wp2_with fail
      refine (has_c S HS.out k hlt _).mono ?_; rintro e w1 ⟨rfl, k1⟩
      have HO1 := Lib.hid (own_below HST.out.2.2 k1)
      have HB1 := Lib.hid (Blk.below HST.out.2.1 k1)
      have HW1 := Lib.hid (below_step HW.out k1)
      clear k1 c0 c1 c2 c3
      by_cases hh : has S k = true
      · have R0 := runs_begin (has S) k hh (by rcases HST.out.1 with h | h | h | h; exact .inl h; omega; exact .inr h; rw [h] at hh; cases hh)
        have HIN := Lib.hid (show RgIn S w.heap.size k k u2 w1 from ⟨hh, R0, HB1.out, HO1.out⟩)
        have rl := runs_len (has S) k
        clear R0
        go_upto_block 2 with fail
        go_cut [3] (fun s wx => ∃ j : Nat, k ≤ j ∧ j < 256 ∧ s = .int .i64 j ∧ RgOut S j ∧ RgIn S w.heap.size k j u2 wx ∧ Below w.heap.size w wx)
        case first =>
          clear hh rl
          go_wp2_with fail
          go_loopg [3] (256 - k) (fun gj i wi => ∃ j : Nat, k ≤ j ∧ j < 256 ∧ gj = 256 - j ∧ i = .int .i64 j ∧ RgIn S w.heap.size k j u2 wi ∧ Below w.heap.size w wi)
          case atStart => exact ⟨k, by omega, hlt, by omega, rfl, HIN.out, HW1.out⟩
          case round =>
            obtain ⟨j, hkj, hj, hgj, rfl, hin, hw⟩ := hrel
            have hb := hin.2.2.1
            have c0 : wr.cell? ⟨w.heap.size, 0, none⟩ = some (.int .u64 (S 0)) := hb.cell 0
            have c1 : wr.cell? ⟨w.heap.size, 1, none⟩ = some (.int .u64 (S 1)) := hb.cell 1
            have c2 : wr.cell? ⟨w.heap.size, 2, none⟩ = some (.int .u64 (S 2)) := hb.cell 2
            have c3 : wr.cell? ⟨w.heap.size, 3, none⟩ = some (.int .u64 (S 3)) := hb.cell 3
            have HW2 := Lib.hid hw
            have HIN2 := Lib.hid hin
            have GJ := Lib.hid hgj
            clear hb hw hin hgj
            by_cases hn : j + 1 < 256
            · have hc := fun W => has_c S HS.out (j + 1) hn W
              simp only [show ((j + 1 : Nat) : Int) = (j : Int) + 1 from by omega] at hc
              have HC := Lib.hid hc
              clear hc
              have hd : decide ((j : Int) + 1 < 256) = true := by simp; omega
              go_wp2_with fail
              refine (HC.out _).mono ?_; rintro e w2 ⟨rfl, k2⟩
              have HO4 := Lib.hid (own_below HIN2.out.2.2.2 k2)
              have HB4 := Lib.hid (Blk.below HIN2.out.2.2.1 k2)
              have HW4 := Lib.hid (below_step HW2.out k2)
              clear k2 c0 c1 c2 c3
              by_cases hg : has S (j + 1) = true
              · have HR2 := Lib.hid (show RgIn S w.heap.size k (j + 1) u2 w2 from ⟨hg, runs_on (has S) j k _ HIN2.out.2.1 hg HIN2.out.1, HB4.out, HO4.out⟩)
                go_wp2_with fail
                go_roundg (256 - (j + 1))
                case rel => exact ⟨j + 1, by omega, by omega, rfl, by go_num, HR2.out, HW4.out⟩
                case measure => have := GJ.out; omega
              · have hg' : has S (j + 1) = false := by simpa using hg
                have HG := Lib.hid hg'
                clear hg
                go_wp2_with fail
                go_meet
                exact ⟨j, hkj, hj, rfl, .inr HG.out, ⟨HIN2.out.1, HIN2.out.2.1, HB4.out, HO4.out⟩, HW4.out⟩
            · have ej : j = 255 := by omega
              have EJ := Lib.hid ej
              clear ej
              have hd : decide ((j : Int) + 1 < 256) = false := by simp; omega
              go_wp2_with fail
              go_meet
              exact ⟨j, hkj, hj, rfl, .inl EJ.out, HIN2.out, HW2.out⟩
        case rest =>
          obtain ⟨j, hkj, hj, rfl, hout, hin, hw⟩ := hcut
          have HOUT := Lib.hid hout
          have HRJ := Lib.hid hin.2.1
          have HB2 := Lib.hid hin.2.2.1
          have HO2 := Lib.hid hin.2.2.2
          have HW2 := Lib.hid hw
          have hbl := hin.2.2.1.lt
          clear hout hin hw hh
          go_wp2_with (at_builtin; refine wpList_append_own _ rfl _ _ 55 rfl (w.heap.size + 1) 57 i0 (.agg #[.int .u8 0, .int .u8 0]) 2 2 Tryd.underlying55 hi hz0 hz1 hz2 rfl (by decide) _ _ _ rfl ((HO2.out).alloc _) ⟨wc.heap.size, 0, none⟩ 1 1 [.int .u8 (k : Int), .int .u8 (j : Int)] rfl rfl ?c1 ?c2 ?c3 ?c4 ?c5 ?_)
          case c1 => exact cell_two_new _ _ _ _
          case c2 => intro u hu; simp at hu; rcases hu with rfl | rfl <;> rfl
          case c3 => unfold maxLen; omega
          case c4 => omega
          case c5 => first | omega | (simp; omega) | simp
          intro v' w3 hown3 hgrow _
          have HB3 := Lib.hid (Blk.grown (Blk.alloc HB2.out _) hgrow (own_ne HO2.out (by omega)))
          have HW3 := Lib.hid (Below.ofGrown (below_alloc HW2.out _) (HO2.out.alloc _) hgrow (by omega) (by first | omega | (simp; omega) | simp))
          have HO3 := Lib.hid hown3
          clear hown3 hgrow
          go_wp2_with fail
          go_roundg (256 - (j + 1))
          case rel => exact ⟨j + 1, by omega, rfl, by go_num, ⟨by rcases HOUT.out with h | h; exact .inr (.inl (by omega)); exact .inr (.inr (.inr h)), HB3.out, by rw [HRJ.out, pairs_snoc]; have := HO3.out; simpa using this⟩, HW3.out⟩
          case measure => have := GK.out; omega
      · have hh' : has S k = false := by simpa using hh
        have U := Lib.hid (show runs (has S) (k + 1) = runs (has S) k by show (if has S k = true then _ else _) = _; rw [if_neg hh])
        have HH := Lib.hid hh'
        clear hh
        go_wp2_with fail
        go_roundg (256 - (k + 1))
        case rel => exact ⟨k + 1, by omega, rfl, by go_num, ⟨.inr (.inr (.inl HH.out)), HB1.out, by rw [U.out]; exact HO1.out⟩, HW1.out⟩
        case measure => have := GK.out; omega
    · have e : k = 256 := by omega
      subst e
      go_wp2_with fail
      go_ret
      exact ⟨_, rfl, own_mono HST.out.2.2 (by omega), HW.out⟩
end Go.Proofs.YtonicgbejmghkaaDoor
