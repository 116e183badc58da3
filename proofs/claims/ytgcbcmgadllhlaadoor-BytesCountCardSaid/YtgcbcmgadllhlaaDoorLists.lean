/- The lists: of bytes, of ranges. -/
import Derived.Test.YtgcbcmgadllhlaaDoorBytes
import Derived.OwnWalk
import Derived.Laws.OwnMore
import Derived.Outline
import Derived.Deep.DeepCutAuto
import Derived.Deep.CutBlock
import Derived.Deep.LoopGhost
import Derived.WalkSmall
import Derived.Deep.AppendLies
namespace Go.Proofs.YtgcbcmgadllhlaaDoor
open Go.RowKit
/-- The first n numbers that have p. -/
def upto (p : Nat → Bool) : Nat → List Nat
  | 0 => []
  | n + 1 => if p n then upto p n ++ [n] else upto p n
theorem upto_len (p : Nat → Bool) : ∀ n, (upto p n).length ≤ n
  | 0 => Nat.le_refl _
  | n + 1 => by
    have := upto_len p n
    unfold upto; split
    · simp; omega
    · omega
def listS (S : Nat → Nat) : List Nat := upto (has S) 256
def ints (l : List Nat) : List Value := l.map fun (n : Nat) => Value.int .i64 n
theorem info_int : (Tryd.prog.info? 3).map (fun i => (i.zero, i.size, i.bytes)) = some (some (.int .i64 0), 1, 8) := by kernel_rfl
set_option maxHeartbeats 1000000 in
set_option maxRecDepth 100000 in
theorem list_c (S : Nat → Nat) (hS : okS S) (w : World) : Calls Tryd.prog 8 #[setV S] w fun e w' => ∃ v, e = .returned v ∧ w'.ownsRow w.heap.size 3 1 v (listS S).length (ints (listS S)) ∧ Below w.heap.size w w' := by
  have HS := Lib.hid hS
  obtain ⟨i0, hi, hz0, hz1, hz2⟩ := info_parts info_int
  clear hS
  unfold setV
  go_enter Tryd.func8, Tryd.ntmps8
  go_wp2_with fail
  go_loopw [3, 4] (fun v i wr => ∃ k : Nat, k ≤ 256 ∧ i = .int .i64 k ∧ Blk wr w.heap.size 24 (setCs S) ∧ wr.ownsRow (w.heap.size + 1) 3 1 v (upto (has S) k).length (ints (upto (has S) k)) ∧ Below w.heap.size w wr) (fun _ i _ => 256 - (intOf i).toNat)
  case atStart => exact ⟨0, by omega, rfl, Blk.made _ _ _, World.ownsRow_nil _ _ _ _, below_alloc (Below.refl _ _) _⟩
  case round =>
    obtain ⟨k, hk, rfl, hb, hown, hw⟩ := hrel
    have c0 : wr.cell? ⟨w.heap.size, 0, none⟩ = some (.int .u64 (S 0)) := hb.cell 0
    have c1 : wr.cell? ⟨w.heap.size, 1, none⟩ = some (.int .u64 (S 1)) := hb.cell 1
    have c2 : wr.cell? ⟨w.heap.size, 2, none⟩ = some (.int .u64 (S 2)) := hb.cell 2
    have c3 : wr.cell? ⟨w.heap.size, 3, none⟩ = some (.int .u64 (S 3)) := hb.cell 3
    have HB := Lib.hid hb
    have HW := Lib.hid hw
    have HOWN := Lib.hid hown
    clear hb hw hown
    by_cases hlt : k < 256
    · go_wp2_with fail
      refine (rhas_c S HS.out k hlt _).mono ?_; rintro e w1 ⟨rfl, k1⟩
      have hown1 := own_below HOWN.out k1
      have HB1 := Lib.hid (Blk.below HB.out k1)
      have HW1 := Lib.hid (below_step HW.out k1)
      clear k1 c0 c1 c2 c3
      by_cases hh : has S k = true
      · have U := Lib.hid (show upto (has S) (k + 1) = upto (has S) k ++ [k] by show (if has S k = true then _ else _) = _; rw [if_pos hh])
        have ul := upto_len (has S) k
        have hbl := HB1.out.lt
        go_wp2_with (at_builtin; refine wpList_append_own _ rfl _ _ 25 rfl (w.heap.size + 1) 3 i0 (.int .i64 0) 1 8 Tryd.underlying25 hi hz0 hz1 hz2 rfl (by decide) _ _ _ rfl (hown1.alloc _) ⟨w1.heap.size, 0, none⟩ 1 1 [.int .i64 (k : Int)] rfl rfl ?c1 ?c2 ?c3 ?c4 ?c5 ?_)
        case c1 => exact cell_one_new _ _ _
        case c2 => intro u hu; simp at hu; (try subst hu); rfl
        case c3 => unfold maxLen; omega
        case c4 => omega
        case c5 => first | omega | (simp; omega) | simp
        intro v' w2 hown2 hgrow _
        have HB2 := Lib.hid (Blk.grown (Blk.alloc HB1.out _) hgrow (own_ne hown1 (by omega)))
        have HW2 := Lib.hid (Below.ofGrown (below_alloc HW1.out _) (hown1.alloc _) hgrow (by omega) (by first | omega | (simp; omega) | simp))
        have HO2 := Lib.hid hown2
        clear hown1 hown2 hgrow hh
        go_wp2_with fail
        go_roundw
        case rel => exact ⟨k + 1, by omega, by go_num, HB2.out, by rw [U.out]; have := HO2.out; simpa [ints] using this, HW2.out⟩
        case measure => simp [intOf] <;> omega
      · have hh' : has S k = false := by simpa using hh
        have U := Lib.hid (show upto (has S) (k + 1) = upto (has S) k by show (if has S k = true then _ else _) = _; rw [if_neg hh])
        have HO1 := Lib.hid hown1
        clear hh hown1
        go_wp2_with fail
        go_roundw
        case rel => exact ⟨k + 1, by omega, by go_num, HB1.out, by rw [U.out]; exact HO1.out, HW1.out⟩
        case measure => simp [intOf] <;> omega
    · have e : k = 256 := by omega
      subst e
      go_wp2_with fail
      go_ret
      exact ⟨_, rfl, own_mono HOWN.out (by omega), HW.out⟩
/-- The runs among the first n numbers. -/
def setLast : List (Nat × Nat) → Nat → List (Nat × Nat)
  | [], _ => []
  | [(a, _)], n => [(a, n)]
  | x :: y :: l, n => x :: setLast (y :: l) n
def runs (p : Nat → Bool) : Nat → List (Nat × Nat)
  | 0 => []
  | n + 1 => if p n then (if 0 < n ∧ p (n - 1) = true then setLast (runs p n) n else runs p n ++ [(n, n)]) else runs p n
theorem setLast_snoc (a b n : Nat) : ∀ l, setLast (l ++ [(a, b)]) n = l ++ [(a, n)]
  | [] => rfl
  | [x] => rfl
  | x :: y :: l => by
    show x :: setLast (y :: l ++ [(a, b)]) n = _
    rw [setLast_snoc a b n (y :: l)]; rfl
theorem setLast_len (n : Nat) : ∀ l, (setLast l n).length = l.length
  | [] => rfl
  | [(_, _)] => rfl
  | x :: y :: l => by
    show (setLast (y :: l) n).length + 1 = (y :: l).length + 1
    rw [setLast_len n (y :: l)]
theorem runs_len (p : Nat → Bool) : ∀ n, (runs p n).length ≤ n
  | 0 => Nat.le_refl _
  | n + 1 => by
    have := runs_len p n
    unfold runs; (repeat' split)
    · rw [setLast_len]; omega
    · simp; omega
    · omega
/-- Where the last number is there, the last run ends with it. -/
theorem runs_last (p : Nat → Bool) : ∀ n, p n = true → ∃ l a, runs p (n + 1) = l ++ [(a, n)] ∧ a ≤ n
  | 0, h => ⟨[], 0, by show (if p 0 = true then _ else _) = _; rw [if_pos h, if_neg (by intro h; exact Nat.lt_irrefl 0 h.1)]; rfl, Nat.le_refl _⟩
  | n + 1, h => by
    show ∃ l a, (if p (n + 1) = true then _ else _) = _ ∧ _
    rw [if_pos h]
    by_cases g : p n = true
    · obtain ⟨l, a, e, ha⟩ := runs_last p n g
      rw [if_pos ⟨by omega, by simpa using g⟩, e, setLast_snoc]
      exact ⟨l, a, rfl, by omega⟩
    · rw [if_neg (by rintro ⟨_, k⟩; exact g (by simpa using k))]
      exact ⟨_, _, rfl, Nat.le_refl _⟩
def rangesS (S : Nat → Nat) : List (Nat × Nat) := runs (has S) 256
def pairs (l : List (Nat × Nat)) : List Value := l.flatMap fun x => [Value.int .u8 x.1, Value.int .u8 x.2]
theorem pairs_len : ∀ l, (pairs l).length = l.length * 2
  | [] => rfl
  | x :: l => by
    show (pairs l).length + 1 + 1 = _
    rw [pairs_len l]; simp; omega
theorem pairs_snoc (l : List (Nat × Nat)) (a b : Nat) : pairs (l ++ [(a, b)]) = pairs l ++ [.int .u8 a, .int .u8 b] := by simp [pairs]
theorem info_pair : (Tryd.prog.info? 30).map (fun i => (i.zero, i.size, i.bytes)) = some (some (.agg #[.int .u8 0, .int .u8 0]), 2, 2) := by kernel_rfl
set_option maxHeartbeats 2000000 in
set_option maxRecDepth 100000 in
theorem rranges_c (S : Nat → Nat) (hS : okS S) (w : World) : Calls Tryd.prog 10 #[setV S] w fun e w' => ∃ v, e = .returned v ∧ w'.ownsRow w.heap.size 30 2 v (rangesS S).length (pairs (rangesS S)) ∧ Below w.heap.size w w' := by
  have HS := Lib.hid hS
  obtain ⟨i0, hi, hz0, hz1, hz2⟩ := info_parts info_pair
  clear hS
  unfold setV
  go_enter Tryd.func10, Tryd.ntmps10
  go_wp2_with fail
  go_loopw [3, 4] (fun v i wr => ∃ k : Nat, k ≤ 256 ∧ i = .int .i64 k ∧ Blk wr w.heap.size 24 (setCs S) ∧ wr.ownsRow (w.heap.size + 1) 30 2 v (runs (has S) k).length (pairs (runs (has S) k)) ∧ Below w.heap.size w wr) (fun _ i _ => 256 - (intOf i).toNat)
  case atStart => exact ⟨0, by omega, rfl, Blk.made _ _ _, World.ownsRow_nil _ _ _ _, below_alloc (Below.refl _ _) _⟩
  case round =>
    obtain ⟨k, hk, rfl, hb, hown, hw⟩ := hrel
    have c0 : wr.cell? ⟨w.heap.size, 0, none⟩ = some (.int .u64 (S 0)) := hb.cell 0
    have c1 : wr.cell? ⟨w.heap.size, 1, none⟩ = some (.int .u64 (S 1)) := hb.cell 1
    have c2 : wr.cell? ⟨w.heap.size, 2, none⟩ = some (.int .u64 (S 2)) := hb.cell 2
    have c3 : wr.cell? ⟨w.heap.size, 3, none⟩ = some (.int .u64 (S 3)) := hb.cell 3
    have HB := Lib.hid hb
    have HW := Lib.hid hw
    have HOWN := Lib.hid hown
    clear hb hw hown
    by_cases hlt : k < 256
    · go_wp2_with fail
      refine (rhas_c S HS.out k hlt _).mono ?_; rintro e w1 ⟨rfl, k1⟩
      have HO1 := Lib.hid (own_below HOWN.out k1)
      have HB1 := Lib.hid (Blk.below HB.out k1)
      have HW1 := Lib.hid (below_step HW.out k1)
      clear k1 c0 c1 c2 c3
      by_cases hh : has S k = true
      · have c0 : w1.cell? ⟨w.heap.size, 0, none⟩ = some (.int .u64 (S 0)) := HB1.out.cell 0
        have c1 : w1.cell? ⟨w.heap.size, 1, none⟩ = some (.int .u64 (S 1)) := HB1.out.cell 1
        have c2 : w1.cell? ⟨w.heap.size, 2, none⟩ = some (.int .u64 (S 2)) := HB1.out.cell 2
        have c3 : w1.cell? ⟨w.heap.size, 3, none⟩ = some (.int .u64 (S 3)) := HB1.out.cell 3
        have hbl := HB1.out.lt
        have rl := runs_len (has S) k
        rcases Nat.eq_zero_or_pos k with h0 | h0
        · subst h0
          have U := Lib.hid (show runs (has S) (0 + 1) = runs (has S) 0 ++ [(0, 0)] by show (if has S 0 = true then _ else _) = _; rw [if_pos hh, if_neg (by intro h; exact Nat.lt_irrefl 0 h.1)])
          go_wp2_with (at_builtin; refine wpList_append_own _ rfl _ _ 27 rfl (w.heap.size + 1) 30 i0 (.agg #[.int .u8 0, .int .u8 0]) 2 2 Tryd.underlying27 hi hz0 hz1 hz2 rfl (by decide) _ _ _ rfl ((HO1.out).alloc _) ⟨w1.heap.size, 0, none⟩ 1 1 [.int .u8 ((0 : Nat) : Int), .int .u8 ((0 : Nat) : Int)] rfl rfl ?c1 ?c2 ?c3 ?c4 ?c5 ?_)
          case c1 => exact cell_two_new _ _ _ _
          case c2 => intro u hu; simp at hu; (try subst hu); rfl
          case c3 => unfold maxLen; omega
          case c4 => omega
          case c5 => first | omega | (simp; omega) | simp
          intro v' w3 hown3 hgrow _
          have HB3 := Lib.hid (Blk.grown (Blk.alloc HB1.out _) hgrow (own_ne HO1.out (by omega)))
          have HW3 := Lib.hid (Below.ofGrown (below_alloc HW1.out _) (HO1.out.alloc _) hgrow (by omega) (by first | omega | (simp; omega) | simp))
          have HO3 := Lib.hid hown3
          clear hown3 hgrow
          go_wp2_with fail
          go_roundw
          case rel => exact ⟨0 + 1, by omega, by go_num, HB3.out, by rw [U.out, pairs_snoc]; have := HO3.out; simpa using this, HW3.out⟩
          case measure => simp [intOf] <;> omega
        · obtain ⟨k', rfl⟩ : ∃ k', k = k' + 1 := ⟨k - 1, by omega⟩
          go_wp2_with fail
          refine (rhas_c S HS.out k' (by omega) _).mono ?_; rintro e w2 ⟨rfl, k2⟩
          have HO2 := Lib.hid (own_below HO1.out k2)
          have HB2 := Lib.hid (Blk.below HB1.out k2)
          have HW2 := Lib.hid (below_step HW1.out k2)
          have hbl2 := HB2.out.lt
          clear k2 c0 c1 c2 c3 hbl
          by_cases hg : has S k' = true
          · obtain ⟨l, a, el, _⟩ := runs_last (has S) k' hg
            have U := Lib.hid (show runs (has S) (k' + 1 + 1) = l ++ [(a, k' + 1)] by show (if has S (k' + 1) = true then _ else _) = _; rw [if_pos hh, if_pos ⟨by omega, by simpa using hg⟩, el, setLast_snoc])
            have ho := HO2.out
            rw [el] at ho rl
            have hll : l.length ≤ 256 := by simp at rl; omega
            obtain ⟨g, cap, hv, hgb, hgl⟩ := ho.form (by simp)
            subst hv
            have cc := ho.cellAt (l.length * 2 + 1) (by simp; omega)
            have ff := ho.frozenAt (l.length * 2 + 1)
            have st := ho.stored (l.length * 2 + 1) (.int .u8 ((k' + 1 : Nat) : Int))
            have HST := Lib.hid st
            have EL := Lib.hid el
            clear st ho el
            have cc' : w2.cell? ⟨g, l.length * 2 + 1, none⟩ = some (.int .u8 (k' : Int)) := by
              rw [cc, pairs_snoc, List.getElem?_append_right (by rw [pairs_len]; omega), pairs_len]
              simp
            clear cc
            go_wp2_with fail
            go_roundw
            case rel =>
              refine ⟨k' + 1 + 1, by omega, by go_num, ?_, ?_, ?_⟩
              · exact Blk.far HB2.out (by simp; omega) _
              · rw [U.out]
                have := HST.out.1
                rw [pairs_snoc] at this
                rw [pairs_snoc]
                have e : (pairs l ++ [Value.int .u8 (a : Int), Value.int .u8 (k' : Int)]).set (l.length * 2 + 1) (.int .u8 ((k' + 1 : Nat) : Int)) = pairs l ++ [Value.int .u8 (a : Int), Value.int .u8 ((k' + 1 : Nat) : Int)] := by
                  rw [List.set_append_right _ _ (by rw [pairs_len]; omega), pairs_len]
                  simp
                rw [e] at this
                simpa using this
              · exact HW2.out.setCell (by simp; omega) _
            case measure => simp [intOf] <;> omega
          · have hg' : has S k' = false := by simpa using hg
            have U := Lib.hid (show runs (has S) (k' + 1 + 1) = runs (has S) (k' + 1) ++ [(k' + 1, k' + 1)] by show (if has S (k' + 1) = true then _ else _) = _; rw [if_pos hh, if_neg (by rintro ⟨_, k⟩; exact hg (by simpa using k))])
            clear hg
            go_wp2_with (at_builtin; refine wpList_append_own _ rfl _ _ 27 rfl (w.heap.size + 1) 30 i0 (.agg #[.int .u8 0, .int .u8 0]) 2 2 Tryd.underlying27 hi hz0 hz1 hz2 rfl (by decide) _ _ _ rfl ((HO2.out).alloc _) ⟨w2.heap.size, 0, none⟩ 1 1 [.int .u8 ((k' + 1 : Nat) : Int), .int .u8 ((k' + 1 : Nat) : Int)] rfl rfl ?c1 ?c2 ?c3 ?c4 ?c5 ?_)
            case c1 => exact cell_two_new _ _ _ _
            case c2 => intro u hu; simp at hu; (try subst hu); rfl
            case c3 => unfold maxLen; omega
            case c4 => omega
            case c5 => first | omega | (simp; omega) | simp
            intro v' w3 hown3 hgrow _
            have HB3 := Lib.hid (Blk.grown (Blk.alloc HB2.out _) hgrow (own_ne HO2.out (by omega)))
            have HW3 := Lib.hid (Below.ofGrown (below_alloc HW2.out _) (HO2.out.alloc _) hgrow (by omega) (by first | omega | (simp; omega) | simp))
            have HO3 := Lib.hid hown3
            clear hown3 hgrow
            go_wp2_with fail
            go_roundw
            case rel => exact ⟨k' + 1 + 1, by omega, by go_num, HB3.out, by rw [U.out, pairs_snoc]; have := HO3.out; simpa using this, HW3.out⟩
            case measure => simp [intOf] <;> omega
      · have hh' : has S k = false := by simpa using hh
        have U := Lib.hid (show runs (has S) (k + 1) = runs (has S) k by show (if has S k = true then _ else _) = _; rw [if_neg hh])
        clear hh
        go_wp2_with fail
        go_roundw
        case rel => exact ⟨k + 1, by omega, by go_num, HB1.out, by rw [U.out]; exact HO1.out, HW1.out⟩
        case measure => simp [intOf] <;> omega
    · have e : k = 256 := by omega
      subst e
      go_wp2_with fail
      go_ret
      exact ⟨_, rfl, own_mono HOWN.out (by omega), HW.out⟩
/-- A run that begins. -/
theorem runs_begin (p : Nat → Bool) (k : Nat) (h : p k = true) (g : k = 0 ∨ p (k - 1) = false) : runs p (k + 1) = runs p k ++ [(k, k)] := by
  show (if p k = true then _ else _) = _
  rw [if_pos h, if_neg (by rintro ⟨h0, h1⟩; rcases g with g | g; omega; rw [g] at h1; cases h1)]
theorem runs_on (p : Nat → Bool) (k lo : Nat) (L : List (Nat × Nat)) (e : runs p (k + 1) = L ++ [(lo, k)]) (h : p (k + 1) = true) (g : p k = true) : runs p (k + 1 + 1) = L ++ [(lo, k + 1)] := by
  show (if p (k + 1) = true then _ else _) = _
  rw [if_pos h, if_pos ⟨by omega, by simpa using g⟩, e, setLast_snoc]
end Go.Proofs.YtgcbcmgadllhlaaDoor
