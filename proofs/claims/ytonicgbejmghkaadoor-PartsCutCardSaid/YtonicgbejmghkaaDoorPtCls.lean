/- Parts' Classes. -/
import Derived.Test.YtonicgbejmghkaaDoorPtAt
import Derived.Test.YtonicgbejmghkaaDoorSetEq
namespace Go.Proofs.YtonicgbejmghkaaDoor
open Go.RowKit
def subS (S a : Nat → Nat) : Bool := ((andS S (notS a) 0 : Nat) : Int) == 0 && (((andS S (notS a) 1 : Nat) : Int) == 0 && (((andS S (notS a) 2 : Nat) : Int) == 0 && ((andS S (notS a) 3 : Nat) : Int) == 0))
def clsIn (K : List (Nat → Nat)) (a : Nat → Nat) (n : Nat) : List Nat := upto (fun c => subS (K.getD c zeroS) a) n
attribute [local irreducible] Calls
set_option maxHeartbeats 1000000 in
set_option maxRecDepth 100000 in
theorem classes_c (p : Nat) (m : List Nat) (K : List (Nat → Nat)) (a : Nat → Nat) (hK : ∀ S ∈ K, okS S) (ha : okS a) (hl : K.length ≤ 256) (w : World) (h : PtR w p m K) : Calls Tryd.prog 18 #[.pointer (some ⟨p, 0, none⟩), setV a] w fun e w' => ∃ v, e = .returned v ∧ w'.ownsRow w.heap.size 3 1 v (clsIn K a K.length).length (ints (clsIn K a K.length)) ∧ Below w.heap.size w w' := by
  obtain ⟨i0, hi, hz0, hz1, hz2⟩ := info_parts info_int
  have LC := Lib.hid (fun w' (hh : PtR w' p m K) => len_c p m K w' hh)
  have B0 := Lib.hid (below_alloc (Below.refl w.heap.size w) (.cells (setCs a) 35))
  have H1 := Lib.hid (h.below B0.out)
  have Z0 := Lib.hid (Blk.made w 35 (setCs a))
  have HK := Lib.hid hK
  have H0 := Lib.hid h
  have NC := Lib.hid (fun w' => not_c a ha w')
  have HA := Lib.hid ha
  clear h hK ha
  unfold setV at NC
  unfold setV
  unfold setCs at B0 H1 Z0
  go_enter Tryd.func18, Tryd.ntmps18
  go_wp2_with fail
  refine (LC.out _ H1.out).mono ?_; rintro e w1 ⟨rfl, k1⟩
  have B1 := Lib.hid (below_step B0.out k1)
  have Z1 := Lib.hid (Z0.out.below k1)
  clear k1 B0 Z0 H1 LC
  go_wp2_with fail
  go_loopw [4, 5, 8] (fun v _ i wr => ∃ k : Nat, k ≤ K.length ∧ i = .int .i64 k ∧ Blk wr w.heap.size 35 (setCs a) ∧ wr.ownsRow (w.heap.size + 1) 3 1 v (clsIn K a k).length (ints (clsIn K a k)) ∧ Below w.heap.size w wr) (fun _ _ i _ => K.length - (intOf i).toNat)
  case atStart => exact ⟨0, by omega, rfl, Z1.out, World.ownsRow_nil _ _ _ _, B1.out⟩
  case round =>
    obtain ⟨k, hk, rfl, hb, hown, hw⟩ := hrel
    have HB := Lib.hid hb
    have HW := Lib.hid hw
    have HOWN := Lib.hid hown
    by_cases hlt : k < K.length
    · have t1 : decide (k < K.length) = true := by simp; omega
      obtain ⟨g0, g00, v, g1, ao, cap, rfl, g2⟩ := H0.out.below hw
      obtain ⟨b, off, rfl, hb', hc⟩ := g2 (by omega)
      have hc := hc k hlt
      have cr := g1.cell 256
      rw [ptCs_row g0] at cr
      have a0 : ∀ x : Ext wr, x.v.cell? ⟨w.heap.size, 0, none⟩ = some (.int .u64 (a 0)) := fun x => HB.out.ext x 0
      have a1 : ∀ x : Ext wr, x.v.cell? ⟨w.heap.size, 1, none⟩ = some (.int .u64 (a 1)) := fun x => HB.out.ext x 1
      have a2 : ∀ x : Ext wr, x.v.cell? ⟨w.heap.size, 2, none⟩ = some (.int .u64 (a 2)) := fun x => HB.out.ext x 2
      have a3 : ∀ x : Ext wr, x.v.cell? ⟨w.heap.size, 3, none⟩ = some (.int .u64 (a 3)) := fun x => HB.out.ext x 3
      have d0 : ∀ x : Ext wr, x.v.cell? ⟨b, off + k * 4, none⟩ = some (.int .u64 (K[k] 0)) := fun x => x.cell hc.1
      have d1 : ∀ x : Ext wr, x.v.cell? ⟨b, off + k * 4 + 1, none⟩ = some (.int .u64 (K[k] 1)) := fun x => x.cell hc.2.1
      have d2 : ∀ x : Ext wr, x.v.cell? ⟨b, off + k * 4 + 2, none⟩ = some (.int .u64 (K[k] 2)) := fun x => x.cell hc.2.2.1
      have d3 : ∀ x : Ext wr, x.v.cell? ⟨b, off + k * 4 + 3, none⟩ = some (.int .u64 (K[k] 3)) := fun x => x.cell hc.2.2.2
      have dr : ∀ x : Ext wr, x.v.cell? ⟨p, 256, none⟩ = some (.slice (some ⟨b, off, none⟩) K.length cap) := fun x => x.cell cr
      have AC := Lib.hid (fun w' => show Calls Tryd.prog 21 #[setV K[k], setV (notS a)] w' fun e w'' => e = .returned (setV (andS K[k] (notS a))) ∧ Below w'.heap.size w' w'' from and_c K[k] (notS a) (HK.out _ (List.getElem_mem hlt)) not_ok w')
      have U := Lib.hid (show clsIn K a (k + 1) = if subS K[k] a then clsIn K a k ++ [k] else clsIn K a k by
        show (if subS (K.getD k zeroS) a then _ else _) = _
        rw [List.getD_eq_getElem?_getD, List.getElem?_eq_getElem hlt]; rfl)
      have EQ := fun w' => set_eql (andS K[k] (notS a) 0 : Nat) (andS K[k] (notS a) 1 : Nat) (andS K[k] (notS a) 2 : Nat) (andS K[k] (notS a) 3 : Nat) 0 0 0 0 w'
      rw [show (((andS K[k] (notS a) 0 : Nat) : Int) == 0 && (((andS K[k] (notS a) 1 : Nat) : Int) == 0 && (((andS K[k] (notS a) 2 : Nat) : Int) == 0 && ((andS K[k] (notS a) 3 : Nat) : Int) == 0))) = subS K[k] a from rfl] at EQ
      have ul := upto_len (fun c => subS (K.getD c zeroS) a) k


      have NC' := Lib.hid (fun w' => show Calls Tryd.prog 22 #[.agg #[.int .u64 (a 0), .int .u64 (a 1), .int .u64 (a 2), .int .u64 (a 3)]] w' fun e w'' => e = .returned (.agg #[.int .u64 (notS a 0), .int .u64 (notS a 1), .int .u64 (notS a 2), .int .u64 (notS a 3)]) ∧ Below w'.heap.size w' w'' from NC.out w')
      unfold setV at AC
      clear hb hw hown g2 hc g1 g0 g00 cr
      generalize subS K[k] a = yes at *
      generalize andS K[k] (notS a) = X at *
      generalize K[k] = S at *
      generalize notS a = T at *
      go_upto_region 4 with fail
      refine wp_region_ext (by kernel_rfl) (by kernel_rfl) ?_
      repeat (go_big_quiet_step (first | (go_at_call 22; exact Calls.ext_of (NC'.out _)) | (go_at_call 21; exact Calls.ext_of (AC.out _))))
      refine wpQuiet_nil ?_
      intro _ hw'
      obtain ⟨xq, hw''⟩ := hw'
      subst hw''
      have Y1 := Lib.hid (HB.out.below xq.h)
      have hown1 := own_below HOWN.out xq.h
      have Y4 := Lib.hid (below_step HW.out xq.h)
      have hys := HB.out.lt
      have hxs := xq.h.size
      clear HB HOWN HW a0 a1 a2 a3 d0 d1 d2 d3 dr NC NC' AC EQ
      generalize xq.v = wy at *
      have hle := Y1.out.lt
      cases yes with
      | true =>
        go_wp2_with (at_builtin; refine wpList_append_own _ rfl _ _ 42 rfl (w.heap.size + 1) 3 i0 (.int .i64 0) 1 8 Tryd.underlying42 hi hz0 hz1 hz2 rfl (by decide) _ _ _ rfl (hown1.alloc _) ⟨wy.heap.size, 0, none⟩ 1 1 [.int .i64 (k : Int)] rfl rfl ?c1 ?c2 ?c3 ?c4 ?c5 ?_)
        case c2 => rfl
        case c3 => unfold maxLen clsIn; omega
        case c4 => unfold clsIn; omega
        case c5 => first | omega | (simp; omega) | simp
        intro v' w2 hown2 hgrow _
        have HB2 := Lib.hid (Blk.grown (Blk.alloc Y1.out _) hgrow (own_ne hown1 (by omega)))
        have HW2 := Lib.hid (Below.ofGrown (below_alloc Y4.out _) (hown1.alloc _) hgrow (by omega) (by first | omega | (simp; omega) | simp))
        have HO2 := Lib.hid hown2
        clear hown1 hown2 hgrow
        go_wp2_with fail
        go_roundw
        case rel => exact ⟨k + 1, by omega, by go_num, HB2.out, by rw [U.out]; have := HO2.out; simpa [ints] using this, HW2.out⟩
        case measure => simp [intOf] <;> omega
      | false =>
        have HO1 := Lib.hid hown1
        clear hown1
        go_wp2_with fail
        go_roundw
        case rel => exact ⟨k + 1, by omega, by go_num, Y1.out, by rw [U.out]; exact HO1.out, Y4.out⟩
        case measure => simp [intOf] <;> omega
    · have e : k = K.length := by omega
      subst e
      go_wp2_with fail
      go_returns
      exact ⟨_, rfl, own_mono HOWN.out (by omega), HW.out⟩
end Go.Proofs.YtonicgbejmghkaaDoor
