/- The wire's Print. -/
import Derived.Test.YtgcjfjmnccajeaaWire11
import Derived.Test.YtgcjfjmnccajeaaWEq
import Derived.RegionTactic
import Derived.ChangeAlike
import Derived.BigRegion
import Derived.Deep.RegionWith
import Derived.Handy
import Derived.Deep.Light
namespace Go.Proofs.Ytgcjfjmnccajeaa
open Go.RowKit
/-- A request as a value. -/
def rqA (r : Rq) : Array Value := #[.int .i64 r.kind, .int .i64 r.tenant, .int .i64 r.q0, .int .i64 r.q1, .int .i64 r.q2, .int .i64 r.q3, .int .i64 r.q4, str r.text]
/-- Is a quota not nothing? -/
def nzQ (r : Rq) : Bool := !(r.q0 == 0 && (r.q1 == 0 && (r.q2 == 0 && (r.q3 == 0 && r.q4 == 0))))
/-- Is a request refused at once? -/
def badA (r : Rq) : Bool := decide (r.kind < 1) || decide (4 < r.kind) || decide (r.tenant < 0) || decide (255 < r.tenant) || decide ((4000 : Int) < (r.text.length : Nat)) || (!(r.kind == 2 || r.kind == 3) && !r.text.isEmpty) || (!(r.kind == 1) && nzQ r)
/-- Numbers that are written, the last f of five. -/
def numsF (q : Nat → Int) : Nat → List UInt8 → Bool → List UInt8 × Bool
  | 0, l, bd => (l, bd)
  | f + 1, l, bd => numsF q f (numW (q (5 - (f + 1))) l bd).1 (numW (q (5 - (f + 1))) l bd).2
def qs5 (q0 q1 q2 q3 q4 : Int) : Nat → Int
  | 0 => q0
  | 1 => q1
  | 2 => q2
  | 3 => q3
  | _ => q4
theorem qs_at (q0 q1 q2 q3 q4 : Int) (k : Nat) (hk : k < 5) : (#[Value.int .i64 q0, .int .i64 q1, .int .i64 q2, .int .i64 q3, .int .i64 q4] : Array Value)[k]? = some (.int .i64 (qs5 q0 q1 q2 q3 q4 k)) := by
  have : k = 0 ∨ k = 1 ∨ k = 2 ∨ k = 3 ∨ k = 4 := by omega
  rcases this with rfl | rfl | rfl | rfl | rfl <;> rfl
theorem numW_len (n : Int) (l : List UInt8) (bd : Bool) : (numW n l bd).1.length ≤ l.length + 11 := by
  unfold numW
  split
  · have := encN_len n.toNat; simp; omega
  · simp
theorem numW_ne (n : Int) (l : List UInt8) (bd : Bool) (h : l ≠ []) : (numW n l bd).1 ≠ [] := by
  unfold numW
  split
  · simp [h]
  · exact h
def hdB (k t : Int) : List UInt8 := [k.toNat.toUInt8, t.toNat.toUInt8]
/-- What Print answers. -/
def printE (r : Rq) : Ending :=
  if badA r = true then .returned (.tuple #[str [], .int .i64 1])
  else if r.kind = 1 then doneE (numsF (qs5 r.q0 r.q1 r.q2 r.q3 r.q4) 5 (hdB r.kind r.tenant) false).1 (numsF (qs5 r.q0 r.q1 r.q2 r.q3 r.q4) 5 (hdB r.kind r.tenant) false).2
  else if r.kind = 4 then doneE (hdB r.kind r.tenant) false
  else doneE ((hdB r.kind r.tenant ++ encN r.text.length) ++ r.text) false
theorem one_cell (k : Int) (h0 : 0 ≤ k) (h1 : k ≤ 255) : [Value.int .u8 k] = Lib.byteCells [k.toNat.toUInt8] := by
  unfold Lib.byteCells
  simp only [List.map_cons, List.map_nil]
  rw [u8_toNat (by omega), Int.toNat_of_nonneg h0]
set_option maxHeartbeats 2000000 in
set_option maxRecDepth 100000 in
theorem print_c (r : Rq) (w : World) (hl : r.text.length ≤ 1000000) : Calls Try.prog 10 #[.agg (rqA r)] w fun e w' => e = printE r ∧ Below w.heap.size w w' := by
  have PE := Lib.hid (printE.eq_1 r)
  have hq := fun wx => quota_neq r.q0 r.q1 r.q2 r.q3 r.q4 0 0 0 0 0 wx
  rw [show (!(r.q0 == 0 && (r.q1 == 0 && (r.q2 == 0 && (r.q3 == 0 && r.q4 == 0))))) = nzQ r from rfl] at hq
  have BA := Lib.hid (badA.eq_1 r)
  have hs := mk_size r.text
  have he : (⟨r.text.toArray⟩ : ByteArray).toList.isEmpty = r.text.isEmpty := by rw [str_list]
  unfold rqA str
  obtain ⟨k, t, q0, q1, q2, q3, q4, tx⟩ := r
  simp only at hq BA hs he hl PE ⊢
  generalize nzQ ⟨k, t, q0, q1, q2, q3, q4, tx⟩ = nz at hq BA
  generalize badA ⟨k, t, q0, q1, q2, q3, q4, tx⟩ = ba at BA PE
  generalize printE ⟨k, t, q0, q1, q2, q3, q4, tx⟩ = en at PE ⊢
  have SC := Lib.hid (show Lib.strCells ⟨tx.toArray⟩ = Lib.byteCells tx from Lib.strCells_eq _)
  generalize (⟨tx.toArray⟩ : ByteArray) = s at hs he SC ⊢
  generalize tx.isEmpty = te at he BA
  have hsz : s.size ≤ 1000000 := by omega
  have hn : tx.length = s.size := hs.symm
  rw [hn] at BA PE hl
  clear hs hn
  go_enter Try.func10, Try.ntmps10
  go_upto_region 1 with fail
  go_cut [4] (fun v4 wx => v4 = .bool (k == 2 || k == 3) ∧ wx = w.alloc (.cells #[.int .i64 k, .int .i64 t, .int .i64 q0, .int .i64 q1, .int .i64 q2, .int .i64 q3, .int .i64 q4, .string s] 26))
  case first =>
    by_cases k2 : k = 2
    · subst k2
      go_wp2_with fail
      go_meet
      exact ⟨rfl, rfl⟩
    · by_cases k3 : k = 3
      · subst k3
        go_wp2_with fail
        go_meet
        exact ⟨rfl, rfl⟩
      · have e2 : (k == 2) = false := beq_eq_false_iff_ne.mpr k2
        have e3 : (k == 3) = false := beq_eq_false_iff_ne.mpr k3
        go_wp2_with fail
        go_meet
        exact ⟨by rw [e2, e3]; rfl, rfl⟩
  case rest =>
    obtain ⟨rfl, rfl⟩ := hcut
    generalize hte : (k == 2 || k == 3) = tt at BA ⊢
    have HTE := Lib.hid hte
    clear hte
    go_upto_region 3 with fail
    go_cut [62] (fun v62 wx => v62 = .bool ba ∧ wx = w.alloc (.cells #[.int .i64 k, .int .i64 t, .int .i64 q0, .int .i64 q1, .int .i64 q2, .int .i64 q3, .int .i64 q4, .string s] 26))
    case first =>
      have hbne : (k != 1) = !(k == 1) := rfl
      rw [← hbne] at BA
      clear hbne
      generalize hk1 : (k != 1) = kb at BA
      cases kb <;> cases tt
      all_goals (go_wp2_with fail)
      all_goals (go_meet; refine ⟨?_, rfl⟩; rw [BA.out]; congr 1)
      all_goals (clear hq HTE BA; go_light)
      all_goals first | (simp [*]; done) | (cases te <;> cases nz <;> simp_all <;> omega)
    case rest =>
      obtain ⟨rfl, rfl⟩ := hcut
      clear hq
      cases ba with
      | true =>
        have PX := Lib.hid (PE.out.trans (if_pos rfl))
        go_wp2_with fail
        go_returns
        exact ⟨PX.out.symm, below_alloc (Below.refl _ _) _⟩
      | false =>
        have PX := Lib.hid (PE.out.trans (if_neg (by simp)))
        have hb := BA.out
        simp only [Bool.or_assoc] at hb
        have hb' := hb.symm
        simp only [Bool.or_eq_false_iff, decide_eq_false_iff_not] at hb'
        obtain ⟨g1, g2, g3, g4, g5, g6, g7⟩ := hb'
        clear hb BA PE g6 g7 he
        have W1 : IntKind.u8.wrap k = k := IntWalk.u8_in _ (by omega)
        have W2 : IntKind.u8.wrap t = t := IntWalk.u8_in _ (by omega)
        have hk0 : 1 ≤ k := by omega
        have hk4 : k ≤ 4 := by omega
        have ht0 : 0 ≤ t := by omega
        have ht4 : t ≤ 255 := by omega
        have K1 := Lib.hid (one_cell k (by omega) (by omega))
        have T1 := Lib.hid (one_cell t ht0 ht4)
        clear g1 g2 g3 g4
        have B0 := Lib.hid (builder_new (fun x => x < w.heap.size + 1) (w.alloc (.cells #[.int .i64 k, .int .i64 t, .int .i64 q0, .int .i64 q1, .int .i64 q2, .int .i64 q3, .int .i64 q4, .string s] 26)) (fun x h => by simpa using h) (.bool false))
        go_upto_region 6 with fail
        go_cut [] (fun wx => Bld (fun x => x < w.heap.size + 1) (w.heap.size + 1) (.bool false) (Lib.byteCells [k.toNat.toUInt8]) wx ∧ Keep (fun x => x < w.heap.size + 1) (w.alloc (.cells #[.int .i64 k, .int .i64 t, .int .i64 q0, .int .i64 q1, .int .i64 q2, .int .i64 q3, .int .i64 q4, .string s] 26)) wx)
        case first =>
          have C := Lib.hid (writeB_c (fun x => x < w.heap.size + 1) (w.heap.size + 1) (.bool false) [] k _ (Bld.drew (by have := B0.out; rw [World.size_alloc] at this; exact this)) (Nat.le_of_ble_eq_true rfl) (fun x h => by simp; omega))
          go_region_with (go_at_call 19; refine C.out.mono ?_; rintro e w2 ⟨rfl, h1, h2⟩)
          all_goals (go_wp2_with fail; go_meet)
          all_goals exact ⟨by rw [← K1.out]; exact h1, (((Keep.refl _ _).alloc _).drewN 1).trans h2⟩
        case rest =>
          obtain ⟨hb1, hk1⟩ := hcut
          have HK1 := Lib.hid hk1
          have BX := Lib.hid (Blk.keep (Blk.made w 26 #[.int .i64 k, .int .i64 t, .int .i64 q0, .int .i64 q1, .int .i64 q2, .int .i64 q3, .int .i64 q4, .string s]) hk1 (by show w.heap.size < w.heap.size + 1; omega))
          have x1 : wc.cell? ⟨w.heap.size, 1, none⟩ = some (.int .i64 t) := BX.out.cell 1
          have hs1 := hk1.size
          rw [World.size_alloc] at hs1
          have C := Lib.hid (writeB_c (fun x => x < w.heap.size + 1) (w.heap.size + 1) (.bool false) (Lib.byteCells [k.toNat.toUInt8]) t _ hb1.drew (Nat.le_of_ble_eq_true rfl) (fun x h => Nat.lt_of_lt_of_le h hs1))
          clear hb1 hk1
          go_upto_region 7 with fail
          go_cut [] (fun wx => Bld (fun x => x < w.heap.size + 1) (w.heap.size + 1) (.bool false) (Lib.byteCells (hdB k t)) wx ∧ Keep (fun x => x < w.heap.size + 1) (w.alloc (.cells #[.int .i64 k, .int .i64 t, .int .i64 q0, .int .i64 q1, .int .i64 q2, .int .i64 q3, .int .i64 q4, .string s] 26)) wx)
          case first =>
            go_region_with (go_at_call 19; refine C.out.mono ?_; rintro e w2 ⟨rfl, h1, h2⟩)
            all_goals (go_wp2_with fail; go_meet)
            all_goals exact ⟨by rw [T1.out, ← Lib.byteCells_append] at h1; exact h1, (HK1.out.drewN 1).trans h2⟩
          case rest =>
            rename_i wc0
            clear C x1 BX HK1 hs1
            obtain ⟨hb1, hk1⟩ := hcut
            have HB := Lib.hid hb1
            have HK := Lib.hid hk1
            have BX := Lib.hid (Blk.keep (Blk.made w 26 #[.int .i64 k, .int .i64 t, .int .i64 q0, .int .i64 q1, .int .i64 q2, .int .i64 q3, .int .i64 q4, .string s]) hk1 (by show w.heap.size < w.heap.size + 1; omega))
            have x0 : wc.cell? ⟨w.heap.size, 0, none⟩ = some (.int .i64 k) := BX.out.cell 0
            have hs1 := hk1.size
            rw [World.size_alloc] at hs1
            have DC := Lib.hid (fun l w4 h h0 => done_ok w.heap.size (fun x => x < w.heap.size + 1) (w.heap.size + 1) l w4 h h0 (fun x h => Nat.lt_succ_of_lt h))
            have FIN := Lib.hid (fun w4 w5 (h1 : Keep (fun x => x < w.heap.size + 1) wc w4) (h2 : Below w.heap.size w4 w5) => show Below w.heap.size w w5 from (below_alloc (Below.refl _ _) _).trans (((hk1.trans h1).below (B := w.heap.size) (by simp) (fun x h => Nat.lt_succ_of_lt h)).trans h2))
            clear hb1 hk1 W1 W2 K1 T1
            by_cases k4 : k = 4
            · subst k4
              have X := Lib.hid (PX.out.trans ((if_neg (by decide)).trans (if_pos rfl)))
              have ht : tt = false := HTE.out.symm
              subst ht
              clear PX HTE
              go_wp2_with fail
              refine (DC.out _ _ HB.out (by unfold hdB; simp)).mono ?_; rintro e w3 ⟨rfl, h2⟩
              go_wp2_with fail
              go_returns
              exact ⟨X.out.symm, FIN.out _ _ (Keep.refl _ _) h2⟩
            · by_cases k1 : k = 1
              · subst k1
                have X := Lib.hid (PX.out.trans (if_pos rfl))
                have ht : tt = false := HTE.out.symm
                subst ht
                have x2 : wc.cell? ⟨w.heap.size, 2, none⟩ = some (.int .i64 q0) := BX.out.cell 2
                have x3 : wc.cell? ⟨w.heap.size, 3, none⟩ = some (.int .i64 q1) := BX.out.cell 3
                have x4 : wc.cell? ⟨w.heap.size, 4, none⟩ = some (.int .i64 q2) := BX.out.cell 4
                have x5 : wc.cell? ⟨w.heap.size, 5, none⟩ = some (.int .i64 q3) := BX.out.cell 5
                have x6 : wc.cell? ⟨w.heap.size, 6, none⟩ = some (.int .i64 q4) := BX.out.cell 6
                clear PX HTE
                go_wp2_with fail
                have QB : Blk ((wc.alloc (.cells #[.int .i64 q0, .int .i64 q1, .int .i64 q2, .int .i64 q3, .int .i64 q4] 24)).alloc (.cells #[.int .i64 q0, .int .i64 q1, .int .i64 q2, .int .i64 q3, .int .i64 q4] 3)) (wc.heap.size + 1) 3 #[.int .i64 q0, .int .i64 q1, .int .i64 q2, .int .i64 q3, .int .i64 q4] := by
                  have := Blk.made (wc.alloc (.cells #[.int .i64 q0, .int .i64 q1, .int .i64 q2, .int .i64 q3, .int .i64 q4] 24)) 3 #[.int .i64 q0, .int .i64 q1, .int .i64 q2, .int .i64 q3, .int .i64 q4]
                  rwa [World.size_alloc] at this
                have B3 : Bld (fun x => x < w.heap.size + 1 ∨ x = wc.heap.size + 1) (w.heap.size + 1) (.bool false) (Lib.byteCells (hdB 1 t)) ((wc.alloc (.cells #[.int .i64 q0, .int .i64 q1, .int .i64 q2, .int .i64 q3, .int .i64 q4] 24)).alloc (.cells #[.int .i64 q0, .int .i64 q1, .int .i64 q2, .int .i64 q3, .int .i64 q4] 3)) :=
                  Bld.below (Bld.far HB.out (fun x h1 h2 => h2.elim id (fun h => by omega))) (below_alloc (below_alloc (Below.refl _ _) _) _)
                go_loopw [9, 96] (fun _ v96 wr => ∃ (i : Nat) (l : List UInt8) (bd : Bool), i ≤ 5 ∧ v96 = .int .i64 i ∧ l.length ≤ 2 + 11 * i ∧ l ≠ [] ∧ numsF (qs5 q0 q1 q2 q3 q4) 5 (hdB 1 t) false = numsF (qs5 q0 q1 q2 q3 q4) (5 - i) l bd ∧ Bld (fun x => x < w.heap.size + 1 ∨ x = wc.heap.size + 1) (w.heap.size + 1) (.bool bd) (Lib.byteCells l) wr ∧ Blk wr (wc.heap.size + 1) 3 #[.int .i64 q0, .int .i64 q1, .int .i64 q2, .int .i64 q3, .int .i64 q4] ∧ Keep (fun x => x < w.heap.size + 1) wc wr) (fun _ v96 _ => 5 - (intOf v96).toNat)
                case atStart => exact ⟨0, hdB 1 t, false, by omega, rfl, by unfold hdB; simp, by unfold hdB; simp, rfl, B3, QB, ((Keep.refl _ _).alloc _).alloc _⟩
                case round =>
                  clear QB B3
                  obtain ⟨i, l, bd, hi, rfl, hll, hl0, heq, hb, hq, hk⟩ := hrel
                  have HE := Lib.hid heq
                  have HBr := Lib.hid hb
                  have HQr := Lib.hid hq
                  have HKr := Lib.hid hk
                  have hsr := hk.size
                  have hqs := Blk.lt hq
                  have HL0 := Lib.hid hl0
                  clear heq hb hq hk hl0
                  by_cases hlt : i < 5
                  · have t1 : decide ((i : Int) < 5) = true := by simp; omega
                    have p1 : wr.cell? ⟨wc.heap.size + 1, i, none⟩ = some (.int .i64 (qs5 q0 q1 q2 q3 q4 i)) := (HQr.out.cell i).trans (qs_at q0 q1 q2 q3 q4 i hlt)
                    have NC := Lib.hid (wnum_c (fun x => x < w.heap.size + 1 ∨ x = wc.heap.size + 1) (w.heap.size + 1) bd l (qs5 q0 q1 q2 q3 q4 i) wr HBr.out (by omega) (fun x h => h.elim (fun h => by omega) (fun h => by omega)))
                    have HX := Lib.hid (show numsF (qs5 q0 q1 q2 q3 q4) (5 - i) l bd = numsF (qs5 q0 q1 q2 q3 q4) (5 - (i + 1)) (numW (qs5 q0 q1 q2 q3 q4 i) l bd).1 (numW (qs5 q0 q1 q2 q3 q4 i) l bd).2 from by
                      rw [show 5 - i = (5 - (i + 1)) + 1 from by omega]
                      show numsF _ _ (numW (qs5 q0 q1 q2 q3 q4 (5 - (5 - (i + 1) + 1))) l bd).1 (numW (qs5 q0 q1 q2 q3 q4 (5 - (5 - (i + 1) + 1))) l bd).2 = _
                      rw [show 5 - (5 - (i + 1) + 1) = i from by omega])
                    have LN := numW_len (qs5 q0 q1 q2 q3 q4 i) l bd
                    have NN := Lib.hid (numW_ne (qs5 q0 q1 q2 q3 q4 i) l bd HL0.out)
                    go_wp2_with fail
                    refine NC.out.mono ?_; rintro e w2 ⟨rfl, h1, h2⟩
                    have H1 := Lib.hid h1
                    have H2 := Lib.hid (HKr.out.trans (h2.mono (fun x _ h => .inl h)))
                    have H3 := Lib.hid (Blk.keep HQr.out h2 (.inr rfl))
                    clear h1 h2
                    go_wp2_with fail
                    go_roundw
                    case rel => exact ⟨i + 1, _, _, by omega, by go_num, by omega, NN.out, HE.out.trans HX.out, H1.out, H3.out, H2.out⟩
                    case measure => simp [intOf]; omega
                  · have e : i = 5 := by omega
                    subst e
                    have HX := Lib.hid (show numsF (qs5 q0 q1 q2 q3 q4) (5 - 5) l bd = (l, bd) from rfl)
                    cases bd with
                    | false =>
                      go_wp2_with fail
                      refine (done_ok w.heap.size (fun x => x < w.heap.size + 1 ∨ x = wc.heap.size + 1) (w.heap.size + 1) l _ HBr.out HL0.out (fun x h => .inl (Nat.lt_succ_of_lt h))).mono ?_; rintro e w3 ⟨rfl, h2⟩
                      go_wp2_with fail
                      go_returns
                      refine ⟨?_, FIN.out _ _ HKr.out h2⟩
                      rw [X.out, HE.out, HX.out]; rfl
                    | true =>
                      go_wp2_with fail
                      refine (done_no w.heap.size (fun x => x < w.heap.size + 1 ∨ x = wc.heap.size + 1) (w.heap.size + 1) l _ HBr.out HL0.out (fun x h => .inl (Nat.lt_succ_of_lt h))).mono ?_; rintro e w3 ⟨rfl, h2⟩
                      go_wp2_with fail
                      go_returns
                      refine ⟨?_, FIN.out _ _ HKr.out h2⟩
                      rw [X.out, HE.out, HX.out]; rfl
              · have k23 : k = 2 ∨ k = 3 := by omega
                have e1 : (k == 1) = false := beq_eq_false_iff_ne.mpr k1
                have X := Lib.hid (PX.out.trans ((if_neg k1).trans (if_neg k4)))
                have ht : tt = true := by rw [← HTE.out]; rcases k23 with rfl | rfl <;> rfl
                subst ht
                have x7 : wc.cell? ⟨w.heap.size, 7, none⟩ = some (.string s) := BX.out.cell 7
                have NC := Lib.hid (wnum_ok (fun x => x < w.heap.size + 1) (w.heap.size + 1) (.bool false) (hdB k t) s.size (by unfold most; omega) wc HB.out (by unfold hdB; simp) (fun x h => Nat.lt_of_lt_of_le h hs1))
                clear PX HTE k1 k4 k23
                go_wp2_with fail
                refine NC.out.mono ?_; rintro e w2 ⟨rfl, h1, h2⟩
                have hel := encN_len s.size
                have BX2 := Blk.keep BX.out h2 (by show w.heap.size < w.heap.size + 1; omega)
                have y7 : w2.cell? ⟨w.heap.size, 7, none⟩ = some (.string s) := BX2.cell 7
                have WC := Lib.hid (writeS_c (fun x => x < w.heap.size + 1) (w.heap.size + 1) (.bool false) (Lib.byteCells (hdB k t ++ encN s.size)) s w2.drew h1.drew (by rw [Lib.byteCells_length]; unfold hdB; simp; omega) (fun x h => Nat.lt_of_lt_of_le h (Nat.le_trans hs1 h2.size)))
                rw [SC.out, ← Lib.byteCells_append] at WC
                have H2 := Lib.hid h2
                clear h1 h2 BX2
                go_wp2_with fail
                go_region_with (go_at_call 21; refine WC.out.mono ?_; rintro e w3 ⟨rfl, h3, h4⟩)
                all_goals
                  go_wp2_with fail
                  refine (DC.out _ _ h3 (by unfold hdB; simp)).mono ?_; rintro e w5 ⟨rfl, h5⟩
                  go_wp2_with fail
                  go_returns
                  exact ⟨X.out.symm, FIN.out _ _ ((H2.out.drewN 1).trans h4) h5⟩
end Go.Proofs.Ytgcjfjmnccajeaa
