/- The wire's PrintResponse. -/
import Derived.Test.YtgcjfjmnccajeaaWire12
import Derived.Test.YtgcjfjmnccajeaaWire10
namespace Go.Proofs.Ytgcjfjmnccajeaa
open Go.RowKit
/-- A slice that reads as tokens. -/
def TokS (w : World) (v : Value) (ts : List (Int × Int × Int)) : Prop :=
  ∃ ao cap, v = .slice ao ts.length cap ∧ (0 < ts.length → ∃ b off, ao = some ⟨b, off, none⟩ ∧ b < w.heap.size ∧ ∀ i (h : i < ts.length), w.cell? ⟨b, off + i * 3, none⟩ = some (.int .i64 ts[i].1) ∧ w.cell? ⟨b, off + i * 3 + 1, none⟩ = some (.int .i64 ts[i].2.1) ∧ w.cell? ⟨b, off + i * 3 + 2, none⟩ = some (.int .i64 ts[i].2.2))
/-- What a token adds. -/
def tokW (t : Int × Int × Int) (l : List UInt8) (bd : Bool) : List UInt8 × Bool :=
  (fun a : List UInt8 × Bool => (fun b : List UInt8 × Bool => numW (IntKind.i64.wrap (t.2.2 - t.2.1)) b.1 b.2) (numW t.2.1 a.1 a.2)) (numW t.1 l (bd || (decide (255 < t.1) || (decide ((most : Int) < t.2.2) || decide (t.2.1 < 0)))))
def toksW : List (Int × Int × Int) → List UInt8 → Bool → List UInt8 × Bool
  | [], l, bd => (l, bd)
  | t :: ts, l, bd => toksW ts (tokW t l bd).1 (tokW t l bd).2
def badR (r : Rp) : Bool := decide (r.err < 0) || decide (13 < r.err) || decide ((4000 : Int) < (r.toks.length : Nat))
def numsR (r : Rp) : List UInt8 × Bool :=
  (fun a : List UInt8 × Bool => (fun b : List UInt8 × Bool => toksW r.toks b.1 b.2) (numW (r.toks.length : Nat) a.1 a.2)) (numW r.at_ [r.err.toNat.toUInt8] false)
def printRE (r : Rp) : Ending := if badR r = true then .returned (.tuple #[str [], .int .i64 1]) else doneE (numsR r).1 (numsR r).2
theorem tokW_len (t : Int × Int × Int) (l : List UInt8) (bd : Bool) : (tokW t l bd).1.length ≤ l.length + 33 := by
  unfold tokW
  have h1 := numW_len t.1 l (bd || (decide (255 < t.1) || (decide ((most : Int) < t.2.2) || decide (t.2.1 < 0))))
  generalize numW t.1 l (bd || (decide (255 < t.1) || (decide ((most : Int) < t.2.2) || decide (t.2.1 < 0)))) = a at *
  have h2 := numW_len t.2.1 a.1 a.2
  generalize hb : numW t.2.1 a.1 a.2 = b at *
  have h3 := numW_len (IntKind.i64.wrap (t.2.2 - t.2.1)) b.1 b.2
  simp only [hb]
  omega
theorem tokW_ne (t : Int × Int × Int) (l : List UInt8) (bd : Bool) (h : l ≠ []) : (tokW t l bd).1 ≠ [] := numW_ne _ _ _ (numW_ne _ _ _ (numW_ne _ _ _ h))
theorem toks_step (ts : List (Int × Int × Int)) (i : Nat) (h : i < ts.length) (l : List UInt8) (bd : Bool) : toksW (ts.drop i) l bd = toksW (ts.drop (i + 1)) (tokW ts[i] l bd).1 (tokW ts[i] l bd).2 := by
  rw [List.drop_eq_getElem_cons h]; rfl
theorem made_set (w : World) (p : Addr) (u : Value) (t : TypeId) (cs : Array Value) : Blk ((w.setCell p u).alloc (.cells cs t)) w.heap.size t cs := by
  have h : (w.setCell p u).heap.size = w.heap.size := by simp [World.setCell]
  have := Blk.made (w.setCell p u) t cs
  rw [h] at this
  exact this
set_option maxHeartbeats 4000000 in
set_option maxRecDepth 100000 in
theorem printR_c (r : Rp) (v : Value) (w : World) (hv : TokS w v r.toks) (hl : r.toks.length ≤ 1000000) : Calls Try.prog 14 #[.agg #[.int .i64 r.err, .int .i64 r.at_, v]] w fun e w' => e = printRE r ∧ Below w.heap.size w w' := by
  obtain ⟨ao, cap, rfl, hcl⟩ := hv
  have PE := Lib.hid (printRE.eq_1 r)
  have BA := Lib.hid (badR.eq_1 r)
  have NR := Lib.hid (numsR.eq_1 r)
  obtain ⟨err, at_, ts⟩ := r
  simp only at hcl PE BA NR hl ⊢
  generalize printRE ⟨err, at_, ts⟩ = en at PE ⊢
  generalize badR ⟨err, at_, ts⟩ = ba at BA PE
  generalize numsR ⟨err, at_, ts⟩ = nr at NR PE
  have HCL := Lib.hid hcl
  clear hcl
  go_enter Try.func14, Try.ntmps14
  go_upto_region 1 with fail
  go_cut [20] (fun v20 wx => v20 = .bool ba ∧ wx = w.alloc (.cells #[.int .i64 err, .int .i64 at_, .slice ao ts.length cap] 36))
  case first =>
    go_wp2_with fail
    all_goals (go_meet; refine ⟨?_, rfl⟩; rw [BA.out])
    all_goals (clear BA HCL PE NR; go_light)
    all_goals first | (simp [*]; done) | (congr 1; simp_all <;> omega)
  case rest =>
    obtain ⟨rfl, rfl⟩ := hcut
    cases ba with
    | true =>
      have PX := Lib.hid (PE.out.trans (if_pos rfl))
      go_wp2_with fail
      go_returns
      exact ⟨PX.out.symm, below_alloc (Below.refl _ _) _⟩
    | false =>
      have PX := Lib.hid (PE.out.trans (if_neg (by simp)))
      have hb := BA.out
      have hb' := hb.symm
      simp only [Bool.or_eq_false_iff, decide_eq_false_iff_not] at hb'
      obtain ⟨⟨g1, g2⟩, g3⟩ := hb'
      clear hb BA PE
      have W1 : IntKind.u8.wrap err = err := IntWalk.u8_in _ (by omega)
      have K1 := Lib.hid (one_cell err (by omega) (by omega))
      have hl2 : ts.length ≤ 4000 := by omega
      clear g1 g2 g3
      have B0 := Lib.hid (builder_new (fun x => x < w.heap.size + 1) (w.alloc (.cells #[.int .i64 err, .int .i64 at_, .slice ao ts.length cap] 36)) (fun x h => by simpa using h) (.bool false))
      go_upto_region 4 with fail
      go_cut [] (fun wx => Bld (fun x => x < w.heap.size + 1) (w.heap.size + 1) (.bool false) (Lib.byteCells [err.toNat.toUInt8]) wx ∧ Keep (fun x => x < w.heap.size + 1) (w.alloc (.cells #[.int .i64 err, .int .i64 at_, .slice ao ts.length cap] 36)) wx)
      case first =>
        have C := Lib.hid (writeB_c (fun x => x < w.heap.size + 1) (w.heap.size + 1) (.bool false) [] err _ (Bld.drew (by have := B0.out; rw [World.size_alloc] at this; exact this)) (Nat.le_of_ble_eq_true rfl) (fun x h => by simp; omega))
        go_region_with (go_at_call 19; refine C.out.mono ?_; rintro e w2 ⟨rfl, h1, h2⟩)
        all_goals (go_wp2_with fail; go_meet)
        all_goals exact ⟨by rw [← K1.out]; exact h1, (((Keep.refl _ _).alloc _).drewN 1).trans h2⟩
      case rest =>
        obtain ⟨hb1, hk1⟩ := hcut
        have HB := Lib.hid hb1
        have BX := Lib.hid (Blk.keep (Blk.made w 36 #[.int .i64 err, .int .i64 at_, .slice ao ts.length cap]) hk1 (by show w.heap.size < w.heap.size + 1; omega))
        have x1 : wc.cell? ⟨w.heap.size, 1, none⟩ = some (.int .i64 at_) := BX.out.cell 1
        have hs1 := hk1.size
        rw [World.size_alloc] at hs1
        have KW := Lib.hid (show Keep (fun x => x < w.heap.size) w wc from ((Keep.refl _ _).alloc _).trans (hk1.mono (fun x _ h => Nat.lt_succ_of_lt h)))
        clear hb1 hk1 W1 K1
        have N1 := Lib.hid (wnum_c (fun x => x < w.heap.size + 1) (w.heap.size + 1) false [err.toNat.toUInt8] at_ wc HB.out (Nat.le_of_ble_eq_true rfl) (fun x h => Nat.lt_of_lt_of_le h hs1))
        have L1 := numW_len at_ [err.toNat.toUInt8] false
        have E1 := numW_ne at_ [err.toNat.toUInt8] false (by simp)
        obtain ⟨⟨la, ba⟩, hxa⟩ : ∃ x, x = numW at_ [err.toNat.toUInt8] false := ⟨_, rfl⟩
        rw [← hxa] at N1 L1 E1 NR
        simp only at N1 L1 E1 NR
        clear hxa
        go_wp2_with fail
        refine N1.out.mono ?_; rintro e w2 ⟨rfl, h1, h2⟩
        have hs2 := h2.size
        have BX2 := Lib.hid (Blk.keep BX.out h2 (by show w.heap.size < w.heap.size + 1; omega))
        have x2 : w2.cell? ⟨w.heap.size, 2, none⟩ = some (.slice ao ts.length cap) := BX2.out.cell 2
        have hl1 : la.length ≤ 12 := by simpa using L1
        have N2 := Lib.hid (wnum_c (fun x => x < w.heap.size + 1) (w.heap.size + 1) ba la (ts.length : Nat) w2 h1 (by omega) (fun x h => Nat.lt_of_lt_of_le h (Nat.le_trans hs1 hs2)))
        have KW2 := Lib.hid (KW.out.trans (h2.mono (fun x _ h => Nat.lt_succ_of_lt h)))
        have L2 := numW_len (ts.length : Nat) la ba
        have E2 := numW_ne (ts.length : Nat) la ba E1
        obtain ⟨⟨lb, bb⟩, hxb⟩ : ∃ x, x = numW (ts.length : Nat) la ba := ⟨_, rfl⟩
        rw [← hxb] at N2 L2 E2 NR
        simp only at N2 L2 E2 NR
        clear hxb h1 h2 E1 L1 x1
        go_wp2_with fail
        refine N2.out.mono ?_; rintro e w3 ⟨rfl, h1, h2⟩
        have hs3 := h2.size
        have BX3 := Lib.hid (Blk.keep BX2.out h2 (by show w.heap.size < w.heap.size + 1; omega))
        have x3 : w3.cell? ⟨w.heap.size, 2, none⟩ = some (.slice ao ts.length cap) := BX3.out.cell 2
        have KW3 := Lib.hid (KW2.out.trans (h2.mono (fun x _ h => Nat.lt_succ_of_lt h)))
        have B3 := Lib.hid h1
        have HE2 := Lib.hid E2
        clear h1 h2 x2 E2 BX BX2 BX3
        go_wp2_with fail
        go_loopw [6, 42] (fun _ v42 wr => ∃ (i : Nat) (l : List UInt8) (bd : Bool), i ≤ ts.length ∧ v42 = .int .i64 i ∧ l.length ≤ 23 + 33 * i ∧ l ≠ [] ∧ toksW ts lb bb = toksW (ts.drop i) l bd ∧ Bld (fun x => x < w.heap.size + 1) (w.heap.size + 1) (.bool bd) (Lib.byteCells l) wr ∧ Keep (fun x => x < w.heap.size) w wr ∧ w.heap.size + 1 ≤ wr.heap.size) (fun _ v42 _ => ts.length - (intOf v42).toNat)
        case atStart => exact ⟨0, lb, bb, Nat.zero_le _, rfl, by omega, HE2.out, rfl, B3.out, KW3.out, by omega⟩
        case round =>
          clear x3
          obtain ⟨i, l, bd, hi, rfl, hll, hl0, heq, hb, hk, hsr⟩ := hrel
          have HE := Lib.hid heq
          have HBr := Lib.hid hb
          have HKr := Lib.hid hk
          have HL0 := Lib.hid hl0
          clear heq hb hk hl0
          by_cases hlt : i < ts.length
          · have t1 : decide (i < ts.length) = true := by simp; omega
            obtain ⟨tb, off, rfl, hbb, hcs⟩ := HCL.out (by omega)
            have kc : ∀ o, wr.cell? ⟨tb, o, none⟩ = w.cell? ⟨tb, o, none⟩ := fun o => World.cell?_of_block (w := w) (HKr.out.block tb hbb hbb)
            have hst := toks_step ts i hlt l bd
            obtain ⟨q0, q1, q2⟩ := hcs i hlt
            have p0 := (kc _).trans q0
            have p1 := (kc _).trans q1
            have p2 := (kc _).trans q2
            clear q0 q1 q2 kc
            have TL := tokW_len ts[i] l bd
            have TN := Lib.hid (tokW_ne ts[i] l bd HL0.out)
            generalize ts[i] = tk at hst p0 p1 p2 TL TN
            obtain ⟨x, y, z⟩ := tk
            have HS := Lib.hid hst
            have TW := Lib.hid (tokW.eq_1 (x, y, z) l bd)
            simp only at p0 p1 p2 TW
            clear hst hcs
            have hbw : w.heap.size + 1 < wr.heap.size := HBr.out.lt
            have BQ := Lib.hid (show Bld (fun k => k < w.heap.size + 1 ∨ k = wr.heap.size) (w.heap.size + 1) (.bool bd) (Lib.byteCells l) wr from Bld.far HBr.out (fun k h1 h2 => h2.elim id (fun h => by omega)))
            obtain ⟨bd1, hbd1⟩ : ∃ b, b = (bd || (decide (255 < x) || (decide ((most : Int) < z) || decide (y < 0)))) := ⟨_, rfl⟩
            rw [← hbd1] at TW
            have HB1 := Lib.hid hbd1
            clear hbd1
            have cbd := BQ.out.cell2
            have fbd := BQ.out.free 2
            go_upto_region 10 with fail
            go_cut [] (fun wx => Bld (fun k => k < w.heap.size + 1 ∨ k = wr.heap.size) (w.heap.size + 1) (.bool bd1) (Lib.byteCells l) wx ∧ Blk wx wr.heap.size 78 #[.int .i64 x, .int .i64 y, .int .i64 z] ∧ Keep (fun k => k < w.heap.size) wr wx ∧ wr.heap.size + 1 ≤ wx.heap.size)
            case first =>
              cases bd with
              | true =>
                go_wp2_with fail
                go_meet
                rw [HB1.out, Bool.true_or]
                exact ⟨Bld.below (BQ.out.set2 _) (below_alloc (Below.refl _ _) _), made_set _ _ _ _ _, ((Keep.refl _ _).set (p := ⟨w.heap.size + 1, 2, none⟩) (by simp) _).alloc _, by simp [World.setCell]⟩
              | false =>
                by_cases hx : 255 < x
                · have t2 : decide ((255 : Int) < x) = true := by simp; omega
                  go_wp2_with fail
                  go_meet
                  rw [HB1.out, t2, Bool.true_or, Bool.false_or]
                  exact ⟨Bld.below (BQ.out.set2 _) (below_alloc (Below.refl _ _) _), made_set _ _ _ _ _, ((Keep.refl _ _).set (p := ⟨w.heap.size + 1, 2, none⟩) (by simp) _).alloc _, by simp [World.setCell]⟩
                · have t2 : decide ((255 : Int) < x) = false := by simp; omega
                  by_cases hz : (most : Int) < z
                  · have t3 : decide ((1099511627776 : Int) < z) = true := by unfold most at hz; simp; omega
                    have t3' : decide ((most : Int) < z) = true := decide_eq_true hz
                    go_wp2_with fail
                    go_meet
                    rw [HB1.out, t2, t3', Bool.true_or, Bool.false_or, Bool.false_or]
                    exact ⟨Bld.below (BQ.out.set2 _) (below_alloc (Below.refl _ _) _), made_set _ _ _ _ _, ((Keep.refl _ _).set (p := ⟨w.heap.size + 1, 2, none⟩) (by simp) _).alloc _, by simp [World.setCell]⟩
                  · have t3 : decide ((1099511627776 : Int) < z) = false := by unfold most at hz; simp; omega
                    have t3' : decide ((most : Int) < z) = false := decide_eq_false hz
                    clear hx hz
                    by_cases hy : y < 0
                    · have t4 : decide (y < 0) = true := decide_eq_true hy
                      go_wp2_with fail
                      go_meet
                      rw [HB1.out, t2, t3', t4, Bool.false_or, Bool.false_or, Bool.false_or]
                      exact ⟨Bld.below (BQ.out.set2 _) (below_alloc (Below.refl _ _) _), made_set _ _ _ _ _, ((Keep.refl _ _).set (p := ⟨w.heap.size + 1, 2, none⟩) (by simp) _).alloc _, by simp [World.setCell]⟩
                    · have t4 : decide (y < 0) = false := decide_eq_false hy
                      go_wp2_with fail
                      go_meet
                      rw [HB1.out, t2, t3', t4, Bool.false_or, Bool.false_or, Bool.false_or]
                      exact ⟨Bld.below (BQ.out.set2 _) (below_alloc (Below.refl _ _) _), made_set _ _ _ _ _, ((Keep.refl _ _).set (p := ⟨w.heap.size + 1, 2, none⟩) (by simp) _).alloc _, by simp [World.setCell]⟩
            case rest =>
              rename_i wc0 _
              clear BQ cbd fbd
              obtain ⟨hb1, ht1, hk1, hg1⟩ := hcut
              have a0 : wc.cell? ⟨wr.heap.size, 0, none⟩ = some (.int .i64 x) := ht1.cell 0
              have N1 := Lib.hid (wnum_c (fun k => k < w.heap.size + 1 ∨ k = wr.heap.size) (w.heap.size + 1) bd1 l x wc hb1 (by omega) (fun k h => h.elim (fun h => by omega) (fun h => by omega)))
              have L1 := numW_len x l bd1
              obtain ⟨⟨l1, b1⟩, hx1⟩ : ∃ u, u = numW x l bd1 := ⟨_, rfl⟩
              rw [← hx1] at N1 L1 TW
              simp only at N1 L1 TW
              clear hx1
              have T1 := Lib.hid ht1
              have KK := Lib.hid (HKr.out.trans hk1)
              clear hb1 ht1 hk1
              go_wp2_with fail
              refine N1.out.mono ?_; rintro e w4 ⟨rfl, h1, h2⟩
              have hs4 := h2.size
              have T2 := Lib.hid (Blk.keep T1.out h2 (.inr rfl))
              have KK2 := Lib.hid (KK.out.trans (h2.mono (fun k _ h => .inl (Nat.lt_succ_of_lt h))))
              have a1 : w4.cell? ⟨wr.heap.size, 1, none⟩ = some (.int .i64 y) := T2.out.cell 1
              have N2 := Lib.hid (wnum_c (fun k => k < w.heap.size + 1 ∨ k = wr.heap.size) (w.heap.size + 1) b1 l1 y w4 h1 (by omega) (fun k h => h.elim (fun h => by omega) (fun h => by omega)))
              have L2 := numW_len y l1 b1
              obtain ⟨⟨l2, b2⟩, hx2⟩ : ∃ u, u = numW y l1 b1 := ⟨_, rfl⟩
              rw [← hx2] at N2 L2 TW
              simp only at N2 L2 TW
              clear hx2 h1 h2 T1 a0 N1
              go_wp2_with fail
              refine N2.out.mono ?_; rintro e w5 ⟨rfl, h1, h2⟩
              have hs5 := h2.size
              have T3 := Lib.hid (Blk.keep T2.out h2 (.inr rfl))
              have KK3 := Lib.hid (KK2.out.trans (h2.mono (fun k _ h => .inl (Nat.lt_succ_of_lt h))))
              have a2 : w5.cell? ⟨wr.heap.size, 1, none⟩ = some (.int .i64 y) := T3.out.cell 1
              have a3 : w5.cell? ⟨wr.heap.size, 2, none⟩ = some (.int .i64 z) := T3.out.cell 2
              have N3 := Lib.hid (wnum_c (fun k => k < w.heap.size + 1 ∨ k = wr.heap.size) (w.heap.size + 1) b2 l2 (IntKind.i64.wrap (z - y)) w5 h1 (by omega) (fun k h => h.elim (fun h => by omega) (fun h => by omega)))
              clear h1 h2 T2 a1 N2
              have wp2 : IntKind.i64.wrap (z - y) = wrap64 (z - y) := by rw [IntKind.wrap_i64]; unfold wrap64; omega
              rw [wp2] at N3 TW
              clear wp2
              go_wp2_with fail
              refine N3.out.mono ?_; rintro e w6 ⟨rfl, h1, h2⟩
              have hs6 := h2.size
              have KK4 := Lib.hid (KK3.out.trans (h2.mono (fun k _ h => .inl (Nat.lt_succ_of_lt h))))
              have B6 := Lib.hid (Bld.far h1 (Q := fun k => k < w.heap.size + 1) (fun k _ h => .inl h))
              rw [← TW.out] at B6
              clear h1 h2 T3 a2 a3 N3 TW
              go_wp2_with fail
              go_roundw
              case rel => exact ⟨i + 1, _, _, by omega, by go_num, by omega, TN.out, HE.out.trans HS.out, B6.out, KK4.out, by omega⟩
              case measure => simp [intOf]; omega
          · have e : i = ts.length := by omega
            have t1 : decide (i < ts.length) = false := by simp; omega
            have HX := Lib.hid (show toksW (ts.drop i) l bd = (l, bd) from by rw [e, List.drop_length]; rfl)
            clear e
            cases bd with
            | false =>
              go_wp2_with fail
              refine (done_ok w.heap.size (fun x => x < w.heap.size + 1) (w.heap.size + 1) l _ HBr.out HL0.out (fun x h => Nat.lt_succ_of_lt h)).mono ?_; rintro e w4 ⟨rfl, h2⟩
              go_wp2_with fail
              go_returns
              refine ⟨?_, (HKr.out.below (Nat.le_refl _) (fun x h => h)).trans h2⟩
              rw [PX.out, NR.out, HE.out, HX.out]; rfl
            | true =>
              go_wp2_with fail
              refine (done_no w.heap.size (fun x => x < w.heap.size + 1) (w.heap.size + 1) l _ HBr.out HL0.out (fun x h => Nat.lt_succ_of_lt h)).mono ?_; rintro e w4 ⟨rfl, h2⟩
              go_wp2_with fail
              go_returns
              refine ⟨?_, (HKr.out.below (Nat.le_refl _) (fun x h => h)).trans h2⟩
              rw [PX.out, NR.out, HE.out, HX.out]; rfl
end Go.Proofs.Ytgcjfjmnccajeaa
