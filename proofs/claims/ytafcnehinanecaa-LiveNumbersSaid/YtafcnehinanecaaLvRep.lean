/- slices.Repeat at one number that is repeated. -/
import Derived.Test.YtafcnehinanecaaShelfMul
import Derived.Test.YtafcnehinanecaaTabOut
import Derived.Laws.CopyOwn
import Derived.Deep.RegionHeld
namespace Go.Proofs.Ytafcnehinanecaa
open Go.RowKit
theorem run_make_ints1 (n : Nat) (h : n ≤ 65536) (w : World) : (Instr.makeSlice 24 (.int .i64 (n : Int)) (.int .i64 (n : Int))).run Try.prog w = .ok (.slice (some ⟨w.heap.size, 0, none⟩) n n) (w.alloc (.cells (ints (List.replicate n 0)).toArray 3)) := by
  obtain ⟨i0, hi, hz0, hz1, hz2⟩ := info_parts info_int
  have := run_makeSlice (P := Try.prog) (w := w) 24 3 i0 (.int .i64 0) Try.underlying24 hi hz0 .i64 .i64 (n : Int) (n : Int) (by omega) (by omega) (by rw [hz1]; omega) (by rw [hz2]; omega) (by omega)
  rw [this, hz1, show ((n : Int)).toNat = n from rfl, Nat.mul_one, made_ints]
theorem add_none (g o j : Nat) : (⟨g, o, none⟩ : Addr).add j = ⟨g, o + j, none⟩ := by unfold Addr.add; split <;> simp_all
attribute [local irreducible] Calls
set_option maxHeartbeats 4000000 in
set_option maxRecDepth 100000 in
theorem rep_c (x : Int) (c : Nat) (h0 : 1 ≤ c) (hc : c ≤ 1000) (b : Nat) (w : World) (hb : Blk w b 3 #[.int .i64 x]) :
    Calls Try.prog 45 #[.slice (some ⟨b, 0, none⟩) 1 1, .int .i64 c] w fun e w' => ∃ g, e = .returned (.slice (some ⟨g, 0, none⟩) c c) ∧ Blk w' g 3 (ints (List.replicate c x)).toArray ∧ w.heap.size ≤ g ∧ Below w.heap.size w w' := by
  have MC := Lib.hid (show ∀ w : World, Calls Try.prog 57 #[.int .u64 1, .int .u64 c] w fun e w' => e = .returned (.tuple #[.int .u64 0, .int .u64 c]) ∧ w = w' from fun w => by
    have := Try.bits_Mul 1 c (by omega) (by omega) w
    rw [show 1 * c / 18446744073709551616 = 0 from by omega, show 1 * c % 18446744073709551616 = c from by omega] at this
    exact this.mono fun e w' h => ⟨h.1, h.2.symm⟩)
  have HB := Lib.hid hb
  have hmk := run_make_ints1 c (by omega)
  clear hb
  go_enter Try.func45, Try.ntmps45
  go_upto_region 7 with (go_at_call 57; refine (MC.out _).mono ?_; rintro e w1 ⟨rfl, rfl⟩)
  have HG := Lib.hid (Blk.made w 3 (ints (List.replicate c 0)).toArray)
  have HA := Lib.hid (below_alloc (Below.refl w.heap.size w) (.cells (ints (List.replicate c 0)).toArray 3))
  have HBA := Lib.hid (HB.out.alloc (.cells (ints (List.replicate c 0)).toArray 3))
  have hcl : (ints (List.replicate c 0)).length = c := by rw [ints_len, List.length_replicate]
  have hsz : (Try.prog.info? 3).map (·.size) = some 1 := by kernel_rfl
  have CS := Lib.hid (show ∀ k, k ≤ c → ∀ (j : Nat) v, (ints (List.replicate k x))[j]? = some v → v = .int .i64 x from fun k _ j v h => by
    unfold ints at h
    rw [List.getElem?_map, List.getElem?_replicate] at h
    split at h
    · injection h with h; exact h.symm
    · exact nomatch h)
  generalize (ints (List.replicate c 0)) = z at *
  generalize w.alloc (.cells z.toArray 3) = wa at *
  generalize hg : w.heap.size = g at *
  clear hmk
  have n1 : [Value.int .i64 x].length = Nat.min 1 c := (Nat.min_eq_left h0).symm
  have n2 : ∀ (j : Nat) v, [Value.int .i64 x][j]? = some v → wa.cell? ((⟨b, 0, none⟩ : Addr).add j) = some v := fun j v hj => by
    rw [add_none, Nat.zero_add, HBA.out.cell j]
    simpa using hj
  have n3 : 0 + [Value.int .i64 x].length ≤ z.toArray.size := by
    show 0 + 1 ≤ z.toArray.size
    rw [List.size_toArray]; omega
  have n4 : ∀ v ∈ [Value.int .i64 x], v.oneCell' = true := by intro v hv; rw [List.mem_singleton] at hv; subst hv; rfl
  have hcp := run_copy_row (P := Try.prog) wa 24 24 3 3 g 0 c c ⟨b, 0, none⟩ 1 1 z.toArray 3 [.int .i64 x] Try.underlying24 hsz HG.out n1 n2 n3 n4
  rw [show (z.toArray.toList.take 0 ++ [Value.int .i64 x] ++ z.toArray.toList.drop (0 + [Value.int .i64 x].length)).toArray = ([Value.int .i64 x] ++ z.drop 1).toArray from by simp, show goInt [Value.int .i64 x].length = Value.int .i64 1 from rfl] at hcp
  have HG1 := Lib.hid (Blk.row HG.out ([Value.int .i64 x] ++ z.drop 1).toArray)
  have HA1 := Lib.hid (below_row HA.out (Nat.le_refl _) ([Value.int .i64 x] ++ z.drop 1).toArray)
  generalize wa.setRow g ([Value.int .i64 x] ++ z.drop 1).toArray = wb at *
  go_wp2_with fail
  clear hcp
  have R1 := Lib.hid (show [Value.int .i64 x] ++ z.drop 1 = ints (List.replicate 1 x) ++ z.drop 1 from rfl)
  have hzl : (z.drop 1).length = c - 1 := by rw [List.length_drop]; omega
  rw [R1.out] at HG1
  generalize z.drop 1 = z1 at *
  go_loopw [8] (fun v wx => ∃ (k : Nat) (rest : List Value), 1 ≤ k ∧ k ≤ c ∧ v = .int .i64 k ∧ rest.length = c - k ∧ Blk wx g 3 (ints (List.replicate k x) ++ rest).toArray ∧ Below g w wx) (fun v _ => c - (intOf v).toNat)
  case atStart => exact ⟨1, z1, by omega, by omega, rfl, hzl, HG1.out, HA1.out⟩
  case round =>
    clear HG1 HA1 HG HA HBA n1 n2 n3 n4 R1 hzl hcl
    obtain ⟨k, rest, hk1, hk2, rfl, hrl, hblk, hw⟩ := hrel
    have HBK := Lib.hid hblk
    have HW := Lib.hid hw
    clear hblk hw
    by_cases hlt : k < c
    · have t1 : decide (k < c) = true := by simpa
      have hmin : ∃ m, m = Nat.min k (c - k) ∧ 1 ≤ m ∧ m ≤ k ∧ k + m ≤ c := ⟨_, rfl, by have := Nat.le_min.2 (show 1 ≤ k ∧ 1 ≤ c - k by omega); exact this, Nat.min_le_left _ _, by have h : Nat.min k (c - k) ≤ c - k := Nat.min_le_right _ _; omega⟩
      obtain ⟨m, hm, hm1, hm2, hm3⟩ := hmin
      have n1 : (ints (List.replicate m x)).length = Nat.min k (c - k) := by rw [ints_len, List.length_replicate]; exact hm
      have n3 : k + (ints (List.replicate m x)).length ≤ (ints (List.replicate k x) ++ rest).toArray.size := by
        rw [List.size_toArray, List.length_append, ints_len, ints_len, List.length_replicate, List.length_replicate]; omega
      have n4 : ∀ v ∈ ints (List.replicate m x), v.oneCell' = true := by
        intro v hv
        unfold ints at hv
        obtain ⟨y, _, rfl⟩ := List.mem_map.1 hv
        rfl
      have e1 : (((ints (List.replicate k x) ++ rest).toArray.toList.take k ++ ints (List.replicate m x) ++ (ints (List.replicate k x) ++ rest).toArray.toList.drop (k + (ints (List.replicate m x)).length)).toArray) = (ints (List.replicate (k + m) x) ++ rest.drop m).toArray := by
        have a1 : (ints (List.replicate k x)).length = k := by rw [ints_len, List.length_replicate]
        have a2 : (ints (List.replicate m x)).length = m := by rw [ints_len, List.length_replicate]
        rw [a2]
        congr 1
        rw [List.take_append_of_le_length (by omega), List.take_of_length_le (by omega), List.drop_append, List.drop_of_length_le (by omega), a1, show k + m - k = m by omega, List.nil_append]
        unfold ints
        rw [← List.map_append, List.replicate_append_replicate]
      have FIN := Lib.hid (show ∀ wz : World, Blk wz g 3 (ints (List.replicate k x) ++ rest).toArray → Below g w wz → (Builtin.copy_ #[24, 24] 3 #[.slice (some ⟨g, k, none⟩) (c - k) (c - k), .slice (some ⟨g, 0, none⟩) k c]).run Try.prog wz = .ok (.int .i64 (m : Nat)) (wz.setRow g (ints (List.replicate (k + m) x) ++ rest.drop m).toArray) ∧ Blk (wz.setRow g (ints (List.replicate (k + m) x) ++ rest.drop m).toArray) g 3 (ints (List.replicate (k + m) x) ++ rest.drop m).toArray ∧ Below g w (wz.setRow g (ints (List.replicate (k + m) x) ++ rest.drop m).toArray) from fun wz hb hw => by
        have n2 : ∀ (j : Nat) v, (ints (List.replicate m x))[j]? = some v → wz.cell? ((⟨g, 0, none⟩ : Addr).add j) = some v := fun j v hj => by
          rw [add_none, Nat.zero_add, hb.cell j]
          have hjm : j < m := by
            have := (List.getElem?_eq_some_iff.1 hj).1
            rwa [ints_len, List.length_replicate] at this
          rw [CS.out m (by omega) j v hj, List.getElem?_toArray, List.getElem?_append_left (by rw [ints_len, List.length_replicate]; omega)]
          unfold ints
          rw [List.getElem?_map, List.getElem?_replicate, if_pos (by omega)]; rfl
        have := run_copy_row (P := Try.prog) wz 24 24 3 3 g k (c - k) (c - k) ⟨g, 0, none⟩ k c _ 3 (ints (List.replicate m x)) Try.underlying24 hsz hb n1 n2 n3 n4
        rw [e1, show goInt (ints (List.replicate m x)).length = Value.int .i64 (m : Nat) from by rw [ints_len, List.length_replicate]; rfl] at this
        exact ⟨this, Blk.row hb _, below_row hw (Nat.le_refl _) _⟩)
      clear n1 n3 n4 e1 hm
      have hkc : (k : Int) ≤ c := by omega
      have hck : ¬ c = k := by omega
      have hwr : IntKind.i64.wrap ((k : Int) + (m : Int)) = (k : Int) + (m : Int) := IntWalk.i64_in _ (by omega)
      go_upto_region 9 with fail
      have DW := Lib.hid (below_dr HW.out)
      have HBD := Lib.hid (show Blk wr.drew g 3 (ints (List.replicate k x) ++ rest).toArray from HBK.out)
      refine wp_region_held_drew (S := fun w' => Below g w w') (by kernel_rfl) DW.out (fun hHeld => ?_)
      refine' wpAnyH_take (i := 0) (v := _) rfl (by kernel_rfl) (by kernel_rfl) (by kernel_rfl) (fun _ _ _ h => h) (Or.inl ⟨by rfl, ?hc0⟩) (by assumption) ?rc0
      case hc0 => (intro w hSw; (try dsimp only at hSw); go_simp; with_reducible rfl)
      try simp only [Act.put]
      refine' wpAnyH_take (i := 1) (v := _) rfl (by kernel_rfl) (by kernel_rfl) (by kernel_rfl) (fun _ _ _ h => h) (Or.inl ⟨by rfl, ?hc1⟩) (by assumption) ?rc1
      case hc1 => (intro w hSw; (try dsimp only at hSw); go_simp; with_reducible rfl)
      try simp only [Act.put]
      refine' wpAnyH_take (i := 2) (v := _) rfl (by kernel_rfl) (by kernel_rfl) (by kernel_rfl) (fun _ _ _ h => h) (Or.inl ⟨by rfl, ?hc2⟩) (by assumption) ?rc2
      case hc2 => (intro w hSw; (try dsimp only at hSw); go_simp; with_reducible rfl)
      try simp only [Act.put]
      refine' wpAnyH_take (i := 3) (v := _) rfl (by kernel_rfl) (by kernel_rfl) (by kernel_rfl) (fun _ _ _ h => h) (Or.inl ⟨by rfl, ?hc3⟩) (by assumption) ?rc3
      case hc3 => (intro w hSw; (try dsimp only at hSw); go_simp; with_reducible rfl)
      try simp only [Act.put]
      refine' wpAnyH_take (i := 4) (v := _) rfl (by kernel_rfl) (by kernel_rfl) (by kernel_rfl) (fun _ _ _ h => h) (Or.inl ⟨by rfl, ?hc4⟩) (by assumption) ?rc4
      case hc4 => (intro w hSw; (try dsimp only at hSw); go_simp; with_reducible rfl)
      try simp only [Act.put]
      refine' wpAnyH_take (i := 5) (v := _) rfl (by kernel_rfl) (by kernel_rfl) (by kernel_rfl) (fun _ _ _ h => h) (Or.inl ⟨by rfl, ?hc5⟩) (by assumption) ?rc5
      case hc5 => (intro w hSw; (try dsimp only at hSw); go_simp; with_reducible rfl)
      try simp only [Act.put]
      refine' wpAnyH_take (i := 6) (v := _) rfl (by kernel_rfl) (by kernel_rfl) (by kernel_rfl) (fun _ _ _ h => h) (Or.inl ⟨by rfl, ?hc6⟩) (by assumption) ?rc6
      case hc6 => (intro w hSw; (try dsimp only at hSw); go_simp; with_reducible rfl)
      try simp only [Act.put]
      refine wpAnyH_ready (rs := [7]) (by kernel_rfl) (by simp) (AllReadyH.cons rfl (fun K' hK => ?_) AllReadyH.nil)
      obtain ⟨hrun, hb2, hw2⟩ := FIN.out wr.drew HBD.out DW.out
      have HB2 := Lib.hid hb2
      have HW2 := Lib.hid hw2
      clear hb2 hw2
      go_simp
      refine hK.out _ _ HW2.out (fun hHeld => ?_)
      clear hK K' hrun
      generalize wr.drew.setRow _ _ = wq at *
      refine' wpAnyH_take (i := 8) (v := _) rfl (by kernel_rfl) (by kernel_rfl) (by kernel_rfl) (fun _ _ _ h => h) (Or.inl ⟨by rfl, ?hd8⟩) (by assumption) ?rd8
      case hd8 => (intro w hSw; (try dsimp only at hSw); go_simp; with_reducible rfl)
      try simp only [Act.put]
      refine wpAnyH_ready (rs := [9]) (by kernel_rfl) (by simp) (AllReadyH.cons rfl (fun K' hK => ?_) AllReadyH.nil)
      go_simp
      refine hK.out _ _ HW2.out (fun hHeld => ?_)
      clear hK K'
      refine wpAnyH_done (by kernel_rfl) ?_ _
      go_wp2_with fail
      go_roundw
      case rel => exact ⟨k + m, rest.drop m, by omega, by omega, by go_num, by rw [List.length_drop]; omega, HB2.out, HW2.out⟩
      case measure => simp [intOf]; omega
    · have t1 : decide (k < c) = false := by simpa using hlt
      have R0 := Lib.hid (show rest = [] from List.eq_nil_of_length_eq_zero (by omega))
      have KC := Lib.hid (show k = c from by omega)
      go_wp2_with fail
      go_returns
      refine ⟨g, rfl, ?_, by omega, by rw [hg]; exact HW.out⟩
      have := HBK.out
      rwa [R0.out, KC.out, List.append_nil] at this
end Go.Proofs.Ytafcnehinanecaa
