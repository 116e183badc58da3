/- The walk of rules.Join. -/
import Derived.Test.YtokfcndhmbkelaaRuCut
import Derived.Test.YtokfcndhmbkelaaBuilder
import Derived.Test.YtokfcndhmbkelaaExt
import Derived.Deep.CutBlock
import Derived.Handy
namespace Go.Proofs.Ytokfcndhmbkelaa
open Go.RowKit
theorem mk_app (a b : List UInt8) : (ByteArray.mk a.toArray) ++ ⟨b.toArray⟩ = ⟨(a ++ b).toArray⟩ := by rw [ByteArray.ext_iff]; simp
/-- Is there an end of a line in a text? -/
def nlB (l : List UInt8) : Bool := (lineB l).length != l.length
theorem nlB_index (l : List UInt8) : decide (0 ≤ Lib.indexByte l 10) = nlB l := by
  rw [index_line]
  unfold nlB
  by_cases h : (lineB l).length = l.length
  · rw [if_pos h, h]; simp
  · rw [if_neg h]
    rw [show ((lineB l).length != l.length) = true from by simpa using h]; simp
/-- May a line stand behind others? -/
def okLn (before : List Ln) (x : Ln) : Bool := nameB x.name && (!hasName before x.name && !nlB x.text)
def okTo (L : List Ln) : Nat → Bool
  | 0 => true
  | k + 1 => okTo L k && (match L[k]? with | none => true | some x => okLn (L.take k) x)
def lnText (x : Ln) : List UInt8 := x.name ++ [58] ++ x.text ++ [10]
def joinT (L : List Ln) : List UInt8 := L.flatMap lnText
def joinB (L : List Ln) : Option (List UInt8) := if okTo L L.length = true ∧ 1 ≤ L.length ∧ L.length ≤ 8 ∧ (joinT L).length ≤ 1000 then some (joinT L) else none
def joinE : Option (List UInt8) → Int
  | none => 1
  | some _ => 0
theorem okTo_mono {L : List Ln} {k : Nat} : ∀ n, k ≤ n → okTo L k = false → okTo L n = false
  | 0, h, e => by rw [show k = 0 by omega] at e; exact e
  | n + 1, h, e => by
    by_cases hk : k = n + 1
    · rw [← hk]; exact e
    · have := okTo_mono n (by omega) e
      unfold okTo; rw [this]; rfl
theorem okTo_step {L : List Ln} {k : Nat} (h : k < L.length) : okTo L (k + 1) = (okTo L k && okLn (L.take k) L[k]) := by
  show (okTo L k && _) = _
  rw [List.getElem?_eq_getElem h]
theorem joinT_step {L : List Ln} {k : Nat} (h : k < L.length) : joinT (L.take (k + 1)) = joinT (L.take k) ++ lnText L[k] := by
  unfold joinT
  rw [List.take_succ_eq_append_getElem h, List.flatMap_append, List.flatMap_cons, List.flatMap_nil, List.append_nil]
theorem joinT_len {m : Nat} : ∀ (L : List Ln), (∀ x ∈ L, x.name.length + x.text.length ≤ m) → (joinT L).length ≤ L.length * (m + 2)
  | [], _ => Nat.zero_le _
  | x :: L, h => by
    have h1 := joinT_len L (fun y hy => h y (List.mem_cons_of_mem _ hy))
    have h2 := h x List.mem_cons_self
    unfold joinT at *
    rw [List.flatMap_cons, List.length_append, List.length_cons, Nat.succ_mul]
    have : (lnText x).length = x.name.length + x.text.length + 2 := by unfold lnText; simp; omega
    omega
theorem LinesAt.take {w : World} {base : Nat} {A : Option Addr} {n cap : Nat} {L : List Ln} (h : LinesAt w base (.slice A n cap) L) {k : Nat} (hk : k ≤ L.length) : LinesAt w base (.slice A k cap) (L.take k) := by
  obtain ⟨A', cap', e, hn, hc⟩ := h
  injection e with e1 e2 e3
  subst e1 e3
  have hl : (L.take k).length = k := by rw [List.length_take]; omega
  refine ⟨A, cap, by rw [hl], ⟨hn.1, by rw [hl]; omega⟩, fun h0 => ?_⟩
  obtain ⟨b, o, e, h1, h2, h3⟩ := hc (by omega)
  refine ⟨b, o, e, h1, h2, fun i hi => ?_⟩
  have := h3 i (by omega)
  rw [List.getElem_take]
  exact this
theorem take_getElem_mem {L : List Ln} {m : Nat} (h : ∀ x ∈ L, x.name.length + x.text.length ≤ m) {k : Nat} (hk : k < L.length) : L[k].name.length ≤ m ∧ L[k].text.length ≤ m := by
  have := h _ (List.getElem_mem hk); omega
set_option maxHeartbeats 4000000 in
set_option maxRecDepth 100000 in
theorem join_c (L : List Ln) (hl : L.length ≤ 1000) (hm : ∀ x ∈ L, x.name.length + x.text.length ≤ 100000) (v : Value) (w : World) (hv : LinesAt w 0 v L) : Calls Try.prog 12 #[v] w fun e w' =>
    e = .returned (.tuple #[str ((joinB L).getD []), .int .i64 (joinE (joinB L))]) ∧ Below w.heap.size w w' := by
  have HV := Lib.hid hv
  have HM := Lib.hid hm
  obtain ⟨A, cap, rfl, hcap, hvc⟩ := hv
  have HB0 := Lib.hid (builder_new (fun k => k < w.heap.size) w (fun _ h => h))
  clear hvc hm
  go_enter Try.func12, Try.ntmps12
  go_wp2_with fail
  go_loopw [9] (fun v9 wr => ∃ k : Nat, k ≤ L.length ∧ v9 = .int .i64 k ∧ okTo L k = true ∧ Bld (fun k => k < w.heap.size) w.heap.size (Lib.byteCells (joinT (L.take k))) wr ∧ Keep (fun k => k < w.heap.size) w wr) (fun v9 _ => L.length - (intOf v9).toNat)
  case atStart => exact ⟨0, by omega, rfl, rfl, HB0.out, Keep.alloc (Keep.refl _ _) _⟩
  case round =>
    obtain ⟨k, hk, rfl, hok, hbd, hkp⟩ := hrel
    have HOK := Lib.hid hok
    have HBD := Lib.hid hbd
    have HKP := Lib.hid hkp
    clear hok hbd hkp HB0
    by_cases hlt : k < L.length
    · have hv2 := HV.out.moved (w' := wr) HKP.out.size (fun b _ hb => HKP.out.block b hb hb)
      have HV2 := Lib.hid hv2
      obtain ⟨A', cap', e', _, hc'⟩ := hv2
      injection e' with e1 _ e2
      subst e1
      subst e2
      obtain ⟨g, o, rfl, _, hg, hcell⟩ := hc' (by omega)
      obtain ⟨c0, c1, c2⟩ := hcell k hlt
      obtain ⟨hx1, hx2⟩ := take_getElem_mem HM.out hlt
      have t1 : decide (k < L.length) = true := by simp; omega
      have t2 : (k : Int) < (L.length : Nat) := by omega
      have t3 : (k : Int) ≤ (cap : Nat) := by omega
      have t4 : (0 : Int) ≤ (k : Int) := by omega
      have LT := Lib.hid (HV2.out.take hk)
      clear hcell hc'
      unfold str at c0 c1
      have OS := Lib.hid (okTo_step hlt)
      have JS := Lib.hid (joinT_step hlt)
      have NC := Lib.hid (fun w1 => name_c L[k].name (by omega) w1)
      have TC := Lib.hid (fun w1 h => there_c (L.take k) (by rw [List.length_take]; omega) L[k].name 0 (.slice (some ⟨g, o, none⟩) k cap) w1 h)
      have CC := Lib.hid (fun w1 => Try.strings_Contains_one ⟨L[k].text.toArray⟩ 10 w1)
      rw [show (⟨L[k].text.toArray⟩ : ByteArray).data.toList = L[k].text from rfl, nlB_index] at CC
      unfold str at NC TC
      generalize L[k] = x at *
      go_upto_region 5 with fail
      have BZ := Lib.hid (Blk.made wr 31 #[.string ⟨x.name.toArray⟩, .string ⟨x.text.toArray⟩, .int .i64 x.at_])
      have WZ := Lib.hid (below_alloc (Below.refl wr.heap.size wr) (.cells #[.string ⟨x.name.toArray⟩, .string ⟨x.text.toArray⟩, .int .i64 x.at_] 31))
      have SE := Lib.hid (show (⟨x.name.toArray⟩ : ByteArray) ++ ⟨#[58]⟩ ++ ⟨x.text.toArray⟩ ++ ⟨#[10]⟩ = ⟨(lnText x).toArray⟩ by
        unfold lnText; rw [show (⟨#[58]⟩ : ByteArray) = ⟨[58].toArray⟩ from rfl, show (⟨#[10]⟩ : ByteArray) = ⟨[10].toArray⟩ from rfl, mk_app, mk_app, mk_app])
      have z1 : (⟨x.name.toArray⟩ : ByteArray).size ≤ 100000 := by rw [mk_size]; exact hx1
      have z2 : (⟨x.text.toArray⟩ : ByteArray).size ≤ 100000 := by rw [mk_size]; exact hx2
      have LN := Lib.hid (show (lnText x).length ≤ 200002 by unfold lnText; simp; omega)
      generalize (⟨x.name.toArray⟩ : ByteArray) = s1 at *
      generalize (⟨x.text.toArray⟩ : ByteArray) = s2 at *
      generalize wr.alloc (.cells #[.string s1, .string s2, .int .i64 x.at_] 31) = wz at *
      have d0 : ∀ y : Ext wz, y.v.cell? ⟨wr.heap.size, 0, none⟩ = some (.string s1) := fun y => BZ.out.ext y 0
      have d1 : ∀ y : Ext wz, y.v.cell? ⟨wr.heap.size, 1, none⟩ = some (.string s2) := fun y => BZ.out.ext y 1
      have NC' := Lib.hid (fun w1 => (NC.out w1).mono (fun e w' ⟨h1, h2⟩ => (⟨h1, h2 ▸ Below.refl _ _⟩ : _ ∧ Below w1.heap.size w1 w')))
      have TC' := Lib.hid (fun y : Ext wz => TC.out y.v (LT.out.below (below_step WZ.out y.h)))
      have CC' := Lib.hid (fun w1 => (CC.out w1).mono (fun e w' ⟨h1, h2⟩ => (⟨h1, h2 ▸ Below.refl _ _⟩ : _ ∧ Below w1.heap.size w1 w')))
      have OE : okLn (L.take k) x = (nameB x.name && (!hasName (L.take k) x.name && !nlB x.text)) := rfl
      generalize okLn (L.take k) x = ok at *
      generalize nameB x.name = b1 at *
      generalize hasName (L.take k) x.name = b2 at *
      generalize nlB x.text = b3 at *
      have OE' := Lib.hid OE
      clear OE c0 c1 c2 NC TC CC
      go_cut [30] from 14 to 30 (fun c wx => c = .bool (!ok) ∧ Below wz.heap.size wz wx)
      case first =>
        refine wp_region_ext (by kernel_rfl) (by kernel_rfl) ?_
        cases b1 <;> cases b2 <;> cases b3
        all_goals
          repeat (go_big_quiet_step (first | (go_at_call 15; exact Calls.ext_of (NC'.out _)) | (go_at_call 18; exact Calls.ext_of (TC'.out _)) | (go_at_call 22; exact Calls.ext_of (CC'.out _))))
          refine wpQuiet_nil ?_
          intro _ hw'
          obtain ⟨xq, hw''⟩ := hw'
          subst hw''
          go_wp2
          go_meet
          have := OE'.out
          exact ⟨by rw [this]; rfl, xq.h⟩
      case rest =>
        obtain ⟨rfl, hbz⟩ := hcut
        have HBZ := Lib.hid hbz
        have BW := BZ.out.below hbz
        have c0 : wc.cell? ⟨wr.heap.size, 0, none⟩ = some (.string s1) := BW.cell 0
        have c1 : wc.cell? ⟨wr.heap.size, 1, none⟩ = some (.string s2) := BW.cell 1
        have KW := Lib.hid (Keep.trans HKP.out ((Keep.ofBelow (P := fun _ => True) (below_step WZ.out hbz)).mono (Q := fun k => k < w.heap.size) (fun _ _ _ => trivial)))
        have BB := Lib.hid (HBD.out.below (below_step WZ.out hbz))
        clear hbz BW d0 d1 NC' TC' CC' OE' HBD HKP
        have OS' := OS.out
        rw [HOK.out, Bool.true_and] at OS'
        cases ok with
        | false =>
          have XX := Lib.hid (show joinB L = none by unfold joinB; rw [if_neg (fun h => by rw [okTo_mono L.length (by omega : k + 1 ≤ L.length) OS'] at h; exact absurd h.1 (by simp))])
          clear OS'
          go_wp2_with fail
          go_returns
          exact ⟨by rw [XX.out]; rfl, KW.out.below (Nat.le_refl _) (fun _ h => h)⟩
        | true =>
          have OS2 := Lib.hid OS'
          have JL := joinT_len (m := 100000) (L.take k) (fun y hy => HM.out y (List.mem_of_mem_take hy))
          have hlk : (L.take k).length ≤ 1000 := by rw [List.length_take]; omega
          have WC := writeS_c (fun k => k < w.heap.size) w.heap.size (Lib.byteCells (joinT (L.take k))) ⟨(lnText x).toArray⟩ wc BB.out (by
            rw [Lib.byteCells_length, mk_size]
            have := LN.out
            have : (L.take k).length * (100000 + 2) ≤ 1000 * (100000 + 2) := Nat.mul_le_mul_right _ hlk
            omega) (fun _ h => Nat.lt_of_lt_of_le h KW.out.size)
          rw [show Lib.strCells ⟨(lnText x).toArray⟩ = Lib.byteCells (lnText x) from rfl, ← Lib.byteCells_append, ← JS.out, ← SE.out] at WC
          have WC' := Lib.hid WC
          clear WC JL hlk OS'
          go_wp2_with fail
          refine WC'.out.mono ?_; rintro e w5 ⟨rfl, hb5, hk5⟩
          have HB5 := Lib.hid hb5
          have HK5 := Lib.hid (KW.out.trans hk5)
          clear hb5 hk5
          go_wp2_with fail
          go_roundw
          case rel => exact ⟨k + 1, by omega, by go_num, OS2.out, HB5.out, HK5.out⟩
          case measure => simp [intOf]; omega
    · have e : k = L.length := by omega
      subst e
      have t0 : ¬ L.length < L.length := by omega
      rw [List.take_length] at HBD
      have BI := Lib.hid (HBD.out.is (B := w.heap.size) (fun _ h => h))
      have BL := Lib.hid (Try.Builder_Len w.heap.size w.heap.size (Lib.byteCells (joinT L)) wr BI.out)
      have BS := Lib.hid (Try.Builder_String_any w.heap.size w.heap.size (joinT L) wr BI.out HKP.out.size)
      rw [Lib.byteCells_length] at BL
      have JL := joinT_len (m := 100000) L HM.out
      have JL2 : (joinT L).length ≤ 1000 * (100000 + 2) := Nat.le_trans JL (Nat.mul_le_mul_right _ hl)
      have JN := Lib.hid (fun (h : ¬ (1 ≤ L.length ∧ L.length ≤ 8 ∧ (joinT L).length ≤ 1000)) => show joinB L = none by unfold joinB; rw [if_neg (fun h2 => h h2.2)])
      have JY := Lib.hid (fun (h : 1 ≤ L.length ∧ L.length ≤ 8 ∧ (joinT L).length ≤ 1000) => show joinB L = some (joinT L) by unfold joinB; rw [if_pos ⟨HOK.out, h⟩])
      have KB := Lib.hid (show Below w.heap.size w wr from HKP.out.below (Nat.le_refl _) (fun _ h => h))
      clear JL
      by_cases h1 : L.length < 1
      · have XX := Lib.hid (JN.out (by omega))
        have t1 : decide ((L.length : Int) < 1) = true := by simp; omega
        clear h1
        go_wp2_with fail
        go_returns
        exact ⟨by rw [XX.out]; rfl, KB.out⟩
      · have t1 : decide ((L.length : Int) < 1) = false := by simp; omega
        by_cases h8 : 8 < L.length
        · have XX := Lib.hid (JN.out (by omega))
          have t2 : decide ((8 : Int) < (L.length : Nat)) = true := by simp; omega
          clear h1 h8
          go_wp2_with fail
          go_returns
          exact ⟨by rw [XX.out]; rfl, KB.out⟩
        · have t2 : decide ((8 : Int) < (L.length : Nat)) = false := by simp; omega
          by_cases hj : 1000 < (joinT L).length
          · have XX := Lib.hid (JN.out (by omega))
            have t3 : decide ((1000 : Int) < ((joinT L).length : Nat)) = true := by simp; omega
            clear h1 h8 hj
            go_wp2_with fail
            refine BL.out.mono ?_; rintro e w2 ⟨rfl, rfl⟩
            go_wp2_with fail
            go_returns
            exact ⟨by rw [XX.out]; rfl, KB.out⟩
          · have XX := Lib.hid (JY.out (by omega))
            have t3 : decide ((1000 : Int) < ((joinT L).length : Nat)) = false := by simp; omega
            clear h1 h8 hj
            go_wp2_with fail
            refine BL.out.mono ?_; rintro e w2 ⟨rfl, rfl⟩
            go_wp2_with fail
            refine BS.out.mono ?_; rintro e w3 ⟨rfl, hb3⟩
            have HB3 := Lib.hid hb3
            clear hb3
            go_wp2_with fail
            go_returns
            exact ⟨by rw [XX.out]; rfl, KB.out.trans HB3.out⟩
end Go.Proofs.Ytokfcndhmbkelaa
