/- The wire's response reader. -/
import Derived.Test.YtgcjfjmnccajeaaWire8
import Derived.Deep.RegionHeld3
import Derived.Deep.RegionLaw
import Derived.Deep.AppendLies
namespace Go.Proofs.Ytgcjfjmnccajeaa
open Go.RowKit Go.Deep
theorem Only.grown {S : List Nat} {a w w' : World} {row : Option Nat} (h : Only S a w) (k : w.grownBy w' row) (hr : ∀ g, row = some g → g ∈ S ∨ a.heap.size ≤ g) : Only S a w' :=
  ⟨k.os.trans h.os, k.tape.trans h.tape, k.output.trans h.output, Nat.le_trans h.size k.size, fun i hi hn => (k.block i (Nat.lt_of_lt_of_le hi h.size) (fun e => (hr i e.symm).elim hn (fun g => by omega))).trans (h.block i hi hn)⟩
def tokCells : List (Int × Int × Int) → List Value
  | [] => []
  | t :: l => .int .i64 t.1 :: .int .i64 t.2.1 :: .int .i64 t.2.2 :: tokCells l
theorem tokCells_len : ∀ l, (tokCells l).length = l.length * 3
  | [] => rfl
  | t :: l => by simp [tokCells, tokCells_len l]; omega
theorem tokCells_snoc : ∀ l (t : Int × Int × Int), tokCells (l ++ [t]) = tokCells l ++ [.int .i64 t.1, .int .i64 t.2.1, .int .i64 t.2.2]
  | [], t => rfl
  | u :: l, t => by
    show _ :: _ :: _ :: tokCells (l ++ [t]) = _
    rw [tokCells_snoc l t]; rfl
/-- Tokens that are read. -/
def toksP : Nat → List (Int × Int × Int) → List UInt8 → Bool → List (Int × Int × Int) × List UInt8 × Bool
  | 0, acc, r, bd => (acc, r, bd)
  | f + 1, acc, r, bd => if bd = true then (acc, r, bd) else toksP f (acc ++ [(tokP r bd).1]) (tokP r bd).2.1 (tokP r bd).2.2
def spP (s : List UInt8) : (Int × Int) × List (Int × Int × Int) × List UInt8 × Bool :=
  (fun a : Nat × List UInt8 × Bool => (fun b : Nat × List UInt8 × Bool => (fun c : Nat × List UInt8 × Bool =>
    (((a.1 : Int), (b.1 : Int)), toksP c.1 [] c.2.1 (c.2.2 || decide (13 < a.1)))) (rdP 4000 7 0 0 b.2.1 b.2.2)) (rdP most 7 0 0 a.2.1 a.2.2)) (oneB s false)
theorem spP_eq (s : List UInt8) (a b c : Nat) (r1 r2 r3 : List UInt8) (b1 b2 b3 : Bool) (h1 : oneB s false = (a, r1, b1)) (h2 : rdP most 7 0 0 r1 b1 = (b, r2, b2)) (h3 : rdP 4000 7 0 0 r2 b2 = (c, r3, b3)) :
    spP s = (((a : Int), (b : Int)), toksP c [] r3 (b3 || decide (13 < a))) := by
  unfold spP; simp only [h1, h2, h3]
theorem toks_done : ∀ f acc r, toksP f acc r true = (acc, r, true)
  | 0, _, _ => rfl
  | _ + 1, _, _ => rfl
theorem tokP_len (r : List UInt8) (bd : Bool) : (tokP r bd).2.1.length ≤ r.length := by
  unfold tokP
  exact Nat.le_trans (rdP_len _ _ _ _ _ _) (Nat.le_trans (rdP_len _ _ _ _ _ _) (rdP_len _ _ _ _ _ _))
/-- The reader, with tokens that the call has made. -/
def SpAt (b B : Nat) (err at_ : Int) (acc : List (Int × Int × Int)) (r : List UInt8) (bd : Bool) (w : World) : Prop :=
  ∃ v, Rd b 75 [.int .i64 err, .int .i64 at_, v] r bd w ∧ w.ownsRow B 78 3 v acc.length (tokCells acc)
theorem SpAt.snoc {b B : Nat} {err at_ : Int} {acc : List (Int × Int × Int)} {r : List UInt8} {bd : Bool} {w : World} {old v : Value} {x y z : Int} (hrd : Rd b 75 [.int .i64 err, .int .i64 at_, old] r bd w)
    (hown : w.ownsRow B 78 3 v (acc.length + 1) (tokCells acc ++ [.int .i64 x, .int .i64 y, .int .i64 z])) (hb : b < B) : SpAt b B err at_ (acc ++ [(x, y, z)]) r bd (w.setCell ⟨b, 4, none⟩ v) := by
  refine ⟨v, Blk.set hrd 4 v, ?_⟩
  rw [tokCells_snoc, List.length_append]
  exact own_only hown ((Only.refl [b] w).set (p := ⟨b, 4, none⟩) (by simp) v) (by simpa using hb)
theorem info_tok : (Try.prog.info? 78).map (fun i => (i.zero, i.size, i.bytes)) = some (some (.agg #[.int .i64 0, .int .i64 0, .int .i64 0]), 3, 24) := by kernel_rfl
theorem num4000 (b : Nat) (t : TypeId) (tl : List Value) (rest : List UInt8) (hl : rest.length ≤ 1000000) (bad : Bool) (w : World) (h : Rd b t tl rest bad w) : Calls Try.prog 33 #[.pointer (some ⟨b, 0, none⟩), .int .i64 4000] w fun e w' =>
    e = .returned (.int .i64 (rdP 4000 7 0 0 rest bad).1) ∧ Rd b t tl (rdP 4000 7 0 0 rest bad).2.1 (rdP 4000 7 0 0 rest bad).2.2 w' ∧ Only [b] w w' := num_c 4000 b t tl rest hl bad w h
set_option maxHeartbeats 4000000 in
set_option maxRecDepth 100000 in
theorem sread_c (b : Nat) (s : List UInt8) (hl : s.length ≤ 1000000) (w : World) (h : Rd b 75 [.int .i64 0, .int .i64 0, .slice none 0 0] s false w) : Calls Try.prog 23 #[.pointer (some ⟨b, 0, none⟩)] w fun e w' =>
    e = .returned (.tuple #[]) ∧ SpAt b w.heap.size (spP s).1.1 (spP s).1.2 (spP s).2.1 (spP s).2.2.1 (spP s).2.2.2 w' ∧ Only [b] w w' := by
  obtain ⟨i0, hti, hz0, hz1, hz2⟩ := info_parts info_tok
  have hb := Blk.lt h
  have L1 := one_lt s false
  have LE1 := one_le s false
  have N0 := Lib.hid (one_c b 75 [.int .i64 0, .int .i64 0, .slice none 0 0] s hl false w h)
  obtain ⟨⟨a, r1, b1⟩, h1⟩ : ∃ x, oneB s false = x := ⟨_, rfl⟩
  rw [h1] at L1 N0 LE1
  simp only at L1 N0 LE1
  have A2 := rd_lt most r1 b1
  have N1 := Lib.hid (fun w1 h => numMost b 75 [.int .i64 a, .int .i64 0, .slice none 0 0] r1 (Nat.le_trans LE1 hl) b1 w1 h)
  have LE2 := rdP_len most 7 0 0 r1 b1
  obtain ⟨⟨nb, r2, b2⟩, h2⟩ : ∃ x, rdP most 7 0 0 r1 b1 = x := ⟨_, rfl⟩
  rw [h2] at A2 N1 LE2
  simp only at A2 N1 LE2
  have A3 := rd_lt 4000 r2 b2
  have OK3 := rdP_ok 4000 7 0 0 r2 b2
  have LE3 := rdP_len 4000 7 0 0 r2 b2
  have N2 := Lib.hid (fun w1 h => num4000 b 75 [.int .i64 a, .int .i64 nb, .slice none 0 0] r2 (Nat.le_trans LE2 (Nat.le_trans LE1 hl)) b2 w1 h)
  obtain ⟨⟨n, r3, b3⟩, h3⟩ : ∃ x, rdP 4000 7 0 0 r2 b2 = x := ⟨_, rfl⟩
  rw [h3] at A3 N2 OK3 LE3
  simp only at A3 N2 OK3 LE3
  have hl3 : r3.length ≤ 1000000 := Nat.le_trans LE3 (Nat.le_trans LE2 (Nat.le_trans LE1 hl))
  have SE := Lib.hid (spP_eq s a nb n r1 r2 r3 b1 b2 b3 h1 h2 h3)
  clear h h1 h2 h3
  have WA : IntKind.i64.wrap (a : Int) = a := IntWalk.i64_in _ (by omega)
  go_enter Try.func23, Try.ntmps23
  go_wp2_with fail
  refine N0.out.mono ?_; rintro e w1 ⟨rfl, h1, k1⟩
  have y2 : w1.cell? ⟨b, 2, none⟩ = some (.int .i64 0) := Blk.cell h1 2
  have f2 := h1.free 2
  have H1 := Lib.hid (show Rd b 75 [.int .i64 a, .int .i64 0, .slice none 0 0] r1 b1 _ from Blk.set h1 2 (.int .i64 a))
  have K1 := Lib.hid (k1.set (p := ⟨b, 2, none⟩) (.inl (by simp)) (.int .i64 a))
  clear h1 k1
  go_wp2_with fail
  refine (N1.out _ H1.out).mono ?_; rintro e w2 ⟨rfl, h1, k1⟩
  have y3 : w2.cell? ⟨b, 3, none⟩ = some (.int .i64 0) := Blk.cell h1 3
  have f3 := h1.free 3
  have H2 := Lib.hid (show Rd b 75 [.int .i64 a, .int .i64 nb, .slice none 0 0] r2 b2 _ from Blk.set h1 3 (.int .i64 nb))
  have K2 := Lib.hid ((K1.out.trans k1).set (p := ⟨b, 3, none⟩) (.inl (by simp)) (.int .i64 nb))
  clear h1 k1 H1 K1 y2 f2
  go_wp2_with fail
  refine (N2.out _ H2.out).mono ?_; rintro e w3 ⟨rfl, h1, k1⟩
  have c1 := h1.cell1
  have f1 := h1.free 1
  have c2 : w3.cell? ⟨b, 2, none⟩ = some (.int .i64 a) := Blk.cell h1 2
  have H3 := Lib.hid h1
  have K3 := Lib.hid (K2.out.trans k1)
  clear h1 k1 H2 K2 y3 f3 N0 N1 N2
  obtain ⟨bd0, hbd0⟩ : ∃ x, x = (b3 || decide (13 < a)) := ⟨_, rfl⟩
  rw [← hbd0] at SE
  have HBD := Lib.hid hbd0
  clear hbd0
  go_upto_region 3 with fail
  go_cut [] (fun wx => Rd b 75 [.int .i64 a, .int .i64 nb, .slice none 0 0] r3 bd0 wx ∧ Only [b] w wx)
  case first =>
    cases b3 with
    | true =>
      go_wp2_with fail
      go_meet
      rw [HBD.out, Bool.true_or]
      exact ⟨H3.out.set1 true, K3.out.set (by simp) _⟩
    | false =>
      by_cases hm : 13 < a
      · have t1 : decide ((13 : Int) < (a : Int)) = true := by simp; omega
        go_wp2_with fail
        go_meet
        rw [HBD.out, Bool.false_or, decide_eq_true hm]
        exact ⟨H3.out.set1 true, K3.out.set (by simp) _⟩
      · have t1 : decide ((13 : Int) < (a : Int)) = false := by simp; omega
        go_wp2_with fail
        go_meet
        rw [HBD.out, Bool.false_or, decide_eq_false hm]
        exact ⟨H3.out.set1 false, K3.out.set (by simp) _⟩
  case rest =>
    have hb3 : bd0 = false → n ≤ 4000 := fun h => OK3 (by have e := HBD.out; rw [h] at e; cases b3 with | false => rfl | true => cases e)
    have HB3 := Lib.hid hb3
    have HC := Lib.hid hcut
    clear HBD hb3 OK3 hcut H3 K3 c1 f1 c2
    go_wp2_with fail
    go_loopw [3] (fun v3 wr => ∃ (i : Nat) (acc : List (Int × Int × Int)) (r : List UInt8) (bd : Bool), i ≤ n ∧ v3 = .int .i64 i ∧ acc.length = i ∧ r.length ≤ r3.length ∧ toksP n [] r3 bd0 = toksP (n - i) acc r bd ∧ (bd = false → n ≤ 4000) ∧ SpAt b w.heap.size a nb acc r bd wr ∧ Only [b] w wr) (fun v3 _ => n - (intOf v3).toNat)
    case atStart => exact ⟨0, [], r3, bd0, Nat.zero_le _, rfl, rfl, Nat.le_refl _, rfl, HB3.out, ⟨_, HC.out.1, World.ownsRow_nil _ _ _ _⟩, HC.out.2⟩
    case round =>
      clear HC
      obtain ⟨i, acc, r, bd, hi, rfl, rfl, hr, heq, hn, ⟨v, hrd, hown⟩, hon⟩ := hrel
      have HE := Lib.hid heq
      have HR := Lib.hid hrd
      have HW := Lib.hid hown
      have HN := Lib.hid hon
      obtain ⟨ao, cap, rfl, _⟩ := own_form hown
      have c1 := hrd.cell1
      have f1 := hrd.free 1
      have hvb := fun g (h : (Value.slice ao acc.length cap).ownBlock = some g) => (hown.lt g h).1
      have HVB := Lib.hid hvb
      clear hrd hown hon heq hvb
      by_cases hlt : acc.length < n
      · have t1 : decide (acc.length < n) = true := by simp; omega
        cases bd with
        | true =>
          clear hn
          go_wp2_with fail
          go_end0
          rw [SE.out, HE.out, toks_done]
          exact ⟨rfl, ⟨_, HR.out, HW.out⟩, HN.out⟩
        | false =>
          have hn4 := hn rfl
          clear hn
          have HX := Lib.hid (show toksP (n - acc.length) acc r false = toksP (n - (acc.length + 1)) (acc ++ [(tokP r false).1]) (tokP r false).2.1 (tokP r false).2.2 from by
            rw [show n - acc.length = (n - (acc.length + 1)) + 1 from by omega]; rfl)
          have TC := Lib.hid (token_c b [.int .i64 a, .int .i64 nb, .slice ao acc.length cap] r (Nat.le_trans hr hl3) false _ (Blk.drew HR.out))
          have TL := tokP_len r false
          have CS := Lib.hid (tokCells_snoc acc (tokP r false).1)
          have CL := tokCells_len acc
          generalize tokP r false = tp at *
          obtain ⟨⟨x, y, z⟩, r4, b4⟩ := tp
          simp only at TC TL CS HX
          have c4 : wr.cell? ⟨b, 4, none⟩ = some (.slice ao acc.length cap) := Blk.cell HR.out 4
          have f4 := HR.out.free 4
          go_wp2_with fail
          go_region_law (first | (refine step_append_lies _ (by rfl) _ _ _ (by rfl) w.heap.size 78 i0 _ 3 24 Try.underlying34 hti hz0 hz1 hz2 rfl (by omega) (.slice ao acc.length cap) acc.length (tokCells acc) (by rfl) (HW4.out.alloc _) ⟨w4.heap.size, 0, none⟩ 1 1 [.int .i64 x, .int .i64 y, .int .i64 z] (by rfl) (by rfl) (World.news_of_block (cs := #[_, _, _]) (t := 78) (fr := (0, 0)) (heap_alloc_new w4 _)) (by simp [Value.oneCell']) (by omega) (by unfold maxLen; omega) (by omega) (by simp; omega) (w4.heap.size + 1) (by simp) ?_; intro g cap2 w5 hown5 hgrow hat hlt5; have HB5 := Blk.grown (Blk.alloc H1.out _) hgrow (fun e => by have := HVB.out _ e.symm; omega); have c5 : w5.cell? ⟨b, 4, none⟩ = some (.slice ao acc.length cap) := HB5.cell 4; have f5 := HB5.free 4) | (go_simp; go_at_call 34; (with_reducible refine (TC.out).mono ?_); rintro e w4 ⟨rfl, h1, k1⟩; have c4 : w4.cell? ⟨b, 4, none⟩ = some (.slice ao acc.length cap) := Blk.cell h1 4; have f4 := h1.free 4; have HW4 := Lib.hid (own_only HW.out.drew k1 (by simpa using hb)); have H1 := Lib.hid h1; have K1 := Lib.hid (HN.out.drew.trans k1); have hs4 := K1.out.size; have hb4 : b < w4.heap.size := (by omega); clear h1 k1))
          all_goals
            have HS := Lib.hid (SpAt.snoc HB5 hown5 hb)
            have HO := Lib.hid ((Only.grown (K1.out.alloc _) hgrow (fun g h => .inr (HVB.out g h))).set (p := ⟨b, 4, none⟩) (.inl (by simp)) (.slice (some ⟨g, 0, none⟩) (acc.length + 1) cap2))
            clear hown5 hgrow hat HB5
            go_wp2_with fail
            go_roundw
            case rel => exact ⟨acc.length + 1, _, _, _, by omega, by go_num, by simp, Nat.le_trans TL hr, HE.out.trans HX.out, fun _ => hn4, HS.out, HO.out⟩
            case measure => simp [intOf]; omega
      · have e : acc.length = n := by omega
        have HX := Lib.hid (show toksP (n - acc.length) acc r bd = (acc, r, bd) from by rw [e, Nat.sub_self]; rfl)
        clear e hn
        have t1 : decide (acc.length < n) = false := by simp; omega
        go_wp2_with fail
        go_end0
        rw [SE.out, HE.out, HX.out]
        exact ⟨rfl, ⟨_, HR.out, HW.out⟩, HN.out⟩
end Go.Proofs.Ytgcjfjmnccajeaa
