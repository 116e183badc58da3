/- The reference's Longest. -/
import Derived.Test.YtafcnehinanecaaTabRun
import Derived.Lib.Strings
namespace Go.Proofs.Ytafcnehinanecaa
open Go.RowKit
theorem quiet_load {P : Program} {o : Oper} {a : Act} {C : World → Prop} {K : Act → Prop} (ty : TypeId) (x : Operand) (ho : o.op = .load ty x)
    (b off : Nat) (hx : a.eval x = .pointer (some ⟨b, off, none⟩)) (cs : List Value) (d : TypeDesc) (hc : ∀ w, C w → w.rangeAt b off cs)
    (hu : P.underlying ty = some d) (hd : d.isRow = true) (hi : (P.info? ty).map (·.size) = some cs.length)
    (h : K (a.put o.dst (.agg cs.toArray))) : o.quiet P a C K := by
  refine ⟨_, fun w hw => ?_, h⟩
  unfold Oper.quietAt execOp
  simp only [ho, hx, Instr.loadAt, Instr.sureAddr, Sem.run_bind, Sem.run_pure, Result.andThen_ok, run_loadVar_mid w b off ty cs d (hc w hw) hu hd hi]
  exact ⟨rfl, rfl⟩
theorem TbAt.loadX {w : World} {b : Nat} {T : Tb} (h : TbAt w b T) : ∃ tv : Array Value, (∀ x : Ext w, TbR x.v tv T) ∧ (∀ x : Ext w, x.v.rangeAt b 0 tv.toList) ∧ (Try.prog.info? 26).map (·.size) = some tv.toList.length := by
  obtain ⟨tv, h1, h2, h3⟩ := h.load
  exact ⟨tv, fun x => h1.below x.h, fun x j v hv => x.cell (h2 j v hv), h3⟩
theorem str_extract (l : List UInt8) (a b : Nat) : (ByteArray.mk l.toArray).extract a b = ⟨((l.drop a).take (b - a)).toArray⟩ := by
  apply Go.WideShapes.bytes_inj
  rw [Lib.extract_data]
attribute [local irreducible] Calls
set_option maxHeartbeats 4000000 in
set_option maxRecDepth 100000 in
theorem longest_c (tv : Array Value) (T : Tb) (p : RightP T) (l : List UInt8) (hl : l.length ≤ 1000000) (f : Nat) (hf : f ≤ l.length) (w : World) (h : TbR w tv T) :
    Calls Try.prog 20 #[.agg tv, strT l, .int .i64 f] w fun e w' => e = .returned (.tuple #[.int .i64 (longest T l f).1, .int .i64 (longest T l f).2]) ∧ Below w.heap.size w w' := by
  have K0 := below_alloc (Below.refl w.heap.size w) (.cells tv 26)
  have W0 := Lib.hid K0
  have HT := Lib.hid h.boxed
  have HP := Lib.hid p
  have h256 := Lib.hid h.len
  have SX := Lib.hid (str_extract l f)
  have SS := Lib.hid (str_size l)
  have RC := Lib.hid (fun (m : List UInt8) hm tv w h => run_c tv T p m hm w h)
  unfold strT at *
  generalize ByteArray.mk l.toArray = s at *
  have hss : s.size = l.length := SS.out
  have HF := Lib.hid (show f ≤ s.size by omega)
  have hsl : s.size ≤ 1000000 := by omega
  have HSS := Lib.hid hss
  clear hss h p K0
  go_enter Try.func20, Try.ntmps20
  go_upto_region 1 with fail
  generalize hwb : w.alloc _ = wb at *
  clear hwb
  have HW := Lib.hid (Below.refl wb.heap.size wb)
  have hf6 : f ≤ 1000000 := by omega
  go_wp2_with fail
  go_loopw [8, 9, 10, 11] (fun r t i _ wx => ∃ k : Nat, f + k ≤ s.size ∧ i = .int .i64 ((f + k + 1 : Nat) : Int) ∧ r = .int .i64 (longN T l f k).1 ∧ t = .int .i64 (longN T l f k).2 ∧ Below wb.heap.size wb wx) (fun _ _ i _ _ => s.size + 1 - (intOf i).toNat)
  case atStart => exact ⟨0, HF.out, by go_num, rfl, rfl, HW.out⟩
  case round =>
    clear HW
    obtain ⟨k, hk, rfl, rfl, rfl, hw⟩ := hrel
    have HW := Lib.hid hw
    have HT1 := Lib.hid (HT.out.below hw)
    have LN := Lib.hid (show longN T l f (k + 1) = if 0 ≤ runT T ((l.drop f).take (k + 1)) ∧ 0 ≤ tagI T (runT T ((l.drop f).take (k + 1))) then (tagI T (runT T ((l.drop f).take (k + 1))), ((f + (k + 1) : Nat) : Int)) else longN T l f k from rfl)
    have LE := Lib.hid (show s.size ≤ f + k → longN T l f k = longest T l f from fun h => by unfold longest; rw [show l.length - f = k by have := HSS.out; omega])
    by_cases hlt : f + k + 1 ≤ s.size
    · have t1 : decide (((f + k + 1 : Nat) : Int) ≤ (s.size : Nat)) = true := by simp; omega
      obtain ⟨tv2, hr2, hg2, hi2⟩ := HT1.out.loadX
      have HR2 := Lib.hid hr2
      have HG2 := Lib.hid hg2
      have HI2 := Lib.hid hi2
      have hin := HP.out.runIn h256.out ((l.drop f).take (k + 1))
      have e1 := SX.out (f + k + 1)
      rw [show f + k + 1 - f = k + 1 by omega] at e1
      have RX := Lib.hid (fun x : Ext wr => RC.out ((l.drop f).take (k + 1)) (by rw [List.length_take]; have := HSS.out; omega) tv2 x.v (HR2.out x))
      clear hr2 hg2 hi2 hw
      generalize ByteArray.mk ((l.drop f).take (k + 1)).toArray = s2 at *
      generalize runT T ((l.drop f).take (k + 1)) = a at *
      go_upto_region 5 with fail
      refine wp_region_ext (by kernel_rfl) (by kernel_rfl) ?_
      go_big_quiet_want
      refine quiet_load 26 (.tmp 3) rfl w.heap.size 0 rfl tv2.toList _ (fun w' hw' => by obtain ⟨x, rfl⟩ := hw'; exact HG2.out x) Try.underlying26 rfl HI2.out ?_
      go_simp
      go_big_quiet_on
      have hk9 : f + k + 1 ≤ s.size := hlt
      repeat (go_big_quiet_step (first | (go_at_call 34; exact Calls.ext_of (RX.out _))))
      refine wpQuiet_nil ?_
      intro _ hw'
      obtain ⟨xq, hw''⟩ := hw'
      subst hw''
      have HT2 := Lib.hid (HT1.out.below xq.h)
      have Y4 := Lib.hid (below_step HW.out xq.h)
      clear HW HT1 HR2 HG2 HI2 RX e1
      generalize xq.v = wy at *
      obtain ⟨_, _, cr, an, cn, at_, ct, c3, c4, hra, hta⟩ := HT2.out.cells
      by_cases h0 : 0 ≤ a
      · have t2 : decide (0 ≤ a) = true := by simpa
        obtain ⟨a, rfl⟩ := Int.eq_ofNat_of_zero_le h0
        have han : a < T.tag.length := by have := HP.out.nt; omega
        obtain ⟨b, off, rfl, hb, cx⟩ := hta.at_ han
        have HG := Lib.hid (show tagI T a = T.tag[a] from by unfold tagI; rw [show ((a : Int)).toNat = a from rfl, List.getD_eq_getElem?_getD, List.getElem?_eq_getElem han]; rfl)
        rw [← HG.out] at cx
        clear hra hta cr
        generalize tagI T a = g at *
        by_cases hg : 0 ≤ g
        · have t3 : decide (0 ≤ g) = true := by simpa
          have HX := Lib.hid (LN.out.trans (if_pos ⟨h0, hg⟩))
          go_wp2_with fail
          go_roundw
          case rel => exact ⟨k + 1, by omega, by go_num, by rw [HX.out], by rw [HX.out]; go_num, Y4.out⟩
          case measure => simp [intOf]; omega
        · have t3 : decide (0 ≤ g) = false := by simpa using hg
          have HX := Lib.hid (LN.out.trans (if_neg fun h => hg h.2))
          go_wp2_with fail
          go_roundw
          case rel => exact ⟨k + 1, by omega, by go_num, by rw [HX.out], by rw [HX.out], Y4.out⟩
          case measure => simp [intOf]; omega
      · have t2 : decide (0 ≤ a) = false := by simpa using h0
        have HX := Lib.hid (LN.out.trans (if_neg fun h => h0 h.1))
        clear hra hta cr
        go_wp2_with fail
        go_roundw
        case rel => exact ⟨k + 1, by omega, by go_num, by rw [HX.out], by rw [HX.out], Y4.out⟩
        case measure => simp [intOf]; omega
    · have t1 : decide (((f + k + 1 : Nat) : Int) ≤ (s.size : Nat)) = false := by simp; omega
      have HX := Lib.hid (LE.out (by omega))
      go_wp2_with fail
      go_returns
      exact ⟨by rw [← HX.out]; rfl, below_step W0.out HW.out⟩
end Go.Proofs.Ytafcnehinanecaa
