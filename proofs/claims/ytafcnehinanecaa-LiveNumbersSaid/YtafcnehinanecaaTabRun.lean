/- The reference's place; Run and Longest. -/
import Derived.Test.YtafcnehinanecaaTabPush
namespace Go.Proofs.Ytafcnehinanecaa
open Go.RowKit
attribute [local irreducible] Calls
set_option maxHeartbeats 4000000 in
theorem place_c (l : List Int) (x : Int) (hl : l.length ≤ 1000000) (v : Value) (w : World) (hv : IntsAt w 0 v l) : Calls Try.prog 38 #[v, .int .i64 x] w fun e w' => e = .returned (.int .i64 (place l x)) ∧ Below w.heap.size w w' := by
  obtain ⟨ao, c, rfl, _⟩ := id hv
  have HV := Lib.hid hv
  clear hv
  go_enter Try.func38, Try.ntmps38
  go_wp2_with fail
  go_loop [5] (fun i => ∃ k : Nat, k ≤ l.length ∧ i = .int .i64 k ∧ ∀ j, j < k → l[j]? ≠ some x) (fun i => l.length - (intOf i).toNat)
  case atStart => exact ⟨0, by omega, rfl, fun j h => by omega⟩
  case round =>
    obtain ⟨k, hk, rfl, ha⟩ := hrel
    have HA := Lib.hid ha
    clear ha
    by_cases hlt : k < l.length
    · have t1 : decide (k < l.length) = true := by simpa
      obtain ⟨b, off, rfl, hb, ck⟩ := HV.out.at_ hlt
      have HG := Lib.hid (List.getElem?_eq_getElem hlt)
      generalize l[k] = y at *
      by_cases hy : y = x
      · subst hy
        have HX := Lib.hid (place_hit HG.out HA.out)
        have t2 : decide (y = y) = true := by simp
        go_wp2_with fail
        go_returns
        exact ⟨by rw [HX.out]; rfl, Below.refl _ _⟩
      · have t2 : (y == x) = false := by simpa using hy
        have HX := Lib.hid (show ∀ j, j < k + 1 → l[j]? ≠ some x from fun j hj => by
          by_cases e : j = k
          · subst e; rw [HG.out]; simpa using hy
          · exact HA.out j (by omega))
        clear hy
        go_wp2_with fail
        go_round
        case rel => exact ⟨k + 1, by omega, by go_num, HX.out⟩
        case measure => simp [intOf]; omega
    · have t1 : decide (k < l.length) = false := by simpa using hlt
      have HX := Lib.hid (place_none (l := l) (x := x) (fun hm => by obtain ⟨j, hj, e⟩ := List.getElem_of_mem hm; exact HA.out j (by omega) (by rw [List.getElem?_eq_getElem hj, e])))
      go_wp2_with fail
      go_returns
      exact ⟨by rw [HX.out]; rfl, Below.refl _ _⟩
def strT (l : List UInt8) : Value := .string ⟨l.toArray⟩
theorem str_size (l : List UInt8) : (ByteArray.mk l.toArray).size = l.length := by show l.toArray.size = _; simp
def bt (l : List UInt8) (k : Nat) : Nat := (l.getD k 0).toNat
theorem bt_get {l : List UInt8} {k : Nat} (h : k < l.length) : l[k].toNat = bt l k := by unfold bt; rw [List.getD_eq_getElem?_getD, List.getElem?_eq_getElem h]; rfl
theorem str_get (l : List UInt8) (k : Nat) (h : k < (ByteArray.mk l.toArray).size) : ((ByteArray.mk l.toArray)[k]).toNat = bt l k := by
  rw [str_size] at h
  rw [← bt_get h]; rfl
set_option maxHeartbeats 4000000 in
set_option maxRecDepth 100000 in
theorem run_c (tv : Array Value) (T : Tb) (p : RightP T) (l : List UInt8) (hl : l.length ≤ 1000000) (w : World) (h : TbR w tv T) : Calls Try.prog 34 #[.agg tv, strT l] w fun e w' => e = .returned (.int .i64 (runT T l)) ∧ Below w.heap.size w w' := by
  have K0 := below_alloc (Below.refl w.heap.size w) (.cells tv 26)
  have W0 := Lib.hid K0
  have HT := Lib.hid h.boxed
  have HP := Lib.hid p
  have h256 := h.len
  have SG := Lib.hid (str_get l)
  have SS := Lib.hid (str_size l)
  unfold strT
  generalize ByteArray.mk l.toArray = s at *
  obtain ⟨c0, c1, cr, an, cn, at_, ct, c3, c4, hra, hta⟩ := HT.out.cells
  clear h p K0 cr hra hta c0 c3 c4
  go_enter Try.func34, Try.ntmps34
  go_upto_region 1 with fail
  generalize hwb : w.alloc _ = wb at *
  clear hwb
  have HW := Lib.hid (Below.refl wb.heap.size wb)
  go_wp2_with fail
  have hss : s.size = l.length := SS.out
  have H256 := Lib.hid h256
  clear h256
  go_loopw [5, 6] (fun a i wx => ∃ k : Nat, k ≤ s.size ∧ i = .int .i64 k ∧ a = .int .i64 (runT T (l.take k)) ∧ Below wb.heap.size wb wx) (fun _ i _ => s.size - (intOf i).toNat)
  case atStart => exact ⟨0, by omega, rfl, rfl, HW.out⟩
  case round =>
    clear HW
    obtain ⟨k, hk, rfl, rfl, hw⟩ := hrel
    have HW := Lib.hid hw
    have hin := HP.out.runIn H256.out (l.take k)
    have RST := Lib.hid (fun h => runT_stop (T := T) (s := l) (k := k) h)
    have RSK := Lib.hid (fun h => runT_take (T := T) (s := l) (k := k) h)
    have RSL := Lib.hid (show l.length ≤ k → runT T (l.take k) = runT T l from fun h => by rw [List.take_of_length_le h])
    obtain ⟨c0, c1, cr, an, cn, at_, ct, c3, c4, hra, hta⟩ := (HT.out.below hw).cells
    clear hta c0 c1 c4
    have HSS := Lib.hid hss
    clear hss
    by_cases hlt : k < s.size
    · have t1 : decide ((k : Int) < (s.size : Nat)) = true := by simp; omega
      have hkl : k < l.length := by have := HSS.out; omega
      by_cases h0 : 0 ≤ runT T (l.take k)
      · have hbl := Lib.hid (HP.out.byteRow H256.out h0 hin.2 l[k])
        have ST := Lib.hid ((RSK.out hkl).trans (show stepT T (runT T (l.take k)) l[k] = (rowI T (runT T (l.take k))).getD (T.remap.getD l[k].toNat 0) 0 from by unfold stepT; rw [if_pos h0]))
        have HROW := Lib.hid (HP.out.row h0 hin.2)
        have GK := SG.out k hlt
        have BG := Lib.hid (bt_get hkl)
        generalize runT T (l.take k) = r at *
        obtain ⟨a, rfl⟩ := Int.eq_ofNat_of_zero_le h0
        have han : a < T.next.length := by have := hin.2; omega
        have hb256 : bt l k < 256 := by rw [← BG.out]; exact l[k].toNat_lt
        rw [BG.out] at hbl ST
        have cb := cr _ hb256
        have hrm : T.remap.getD (bt l k) 0 = T.remap[bt l k]'(by rw [H256.out]; exact hb256) := by rw [List.getD_eq_getElem?_getD, List.getElem?_eq_getElem (by rw [H256.out]; exact hb256)]; rfl
        have HR := Lib.hid hrm
        obtain ⟨b, off, A, c, rfl, hb, crow, hri⟩ := hra.at_ han
        have HROW2 := Lib.hid (show T.next[a]'han = rowI T a from HROW.out.symm)
        rw [HROW2.out] at crow hri
        rw [← HR.out] at cb
        have hbl2 := hbl.out
        obtain ⟨rb, roff, rfl, hrb, cx⟩ := hri.at_ hbl2
        have HX : (rowI T a).getD (T.remap.getD (bt l k) 0) 0 = (rowI T a)[T.remap.getD (bt l k) 0] := by rw [List.getD_eq_getElem?_getD, List.getElem?_eq_getElem hbl2]; rfl
        rw [HX] at ST
        generalize T.remap.getD (bt l k) 0 = m at *
        generalize rowI T (a : Int) = row at *
        generalize hy : row[m] = y at *
        have HY := Lib.hid hy
        have HXX := Lib.hid (RSK.out hkl)
        clear hra hri cr hbl hrm RST RSL RSK hy HX HXX
        go_wp2_with fail
        go_quiet (fail)
        go_wp2_with fail
        go_roundw
        case rel => exact ⟨k + 1, by omega, by go_num, by rw [ST.out], below_dn HW.out _⟩
        case measure => simp [intOf]; omega
      · have t2 : decide (0 ≤ runT T (l.take k)) = false := by simpa using h0
        have HX := Lib.hid (RST.out (by omega))
        have HA := Lib.hid (And.intro hra cr)
        clear hra cr c3 h0
        generalize runT T (l.take k) = a at *
        go_wp2_with fail
        go_returns
        exact ⟨by rw [HX.out]; rfl, below_step W0.out HW.out⟩
    · have t1 : decide ((k : Int) < (s.size : Nat)) = false := by simp; omega
      have HX := Lib.hid (RSL.out (by have := HSS.out; omega))
      have HA := Lib.hid (And.intro hra cr)
      clear hra cr c3
      generalize runT T (l.take k) = a at *
      go_wp2_with fail
      go_returns
      exact ⟨by rw [← HX.out]; rfl, below_step W0.out HW.out⟩
end Go.Proofs.Ytafcnehinanecaa
