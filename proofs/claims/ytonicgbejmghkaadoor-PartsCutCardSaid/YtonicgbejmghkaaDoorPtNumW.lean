/- The walk of number. -/
import Derived.Test.YtonicgbejmghkaaDoorPtNum
import Derived.Test.YtonicgbejmghkaaDoorRanges
import Derived.Deep.RegionHeld
import Derived.Deep.AppendLies
import Derived.Deep.Light
namespace Go.Proofs.YtonicgbejmghkaaDoor
open Go.RowKit
theorem info_pt : (Tryd.prog.info? 53).map (fun i => (i.zero, i.size)) = some (some (.agg (Array.replicate 256 (Value.int .u8 0) ++ #[.slice none 0 0])), 257) := by kernel_rfl
theorem zero_pt : Array.replicate 256 (Value.int .u8 0) ++ #[.slice none 0 0] = ptCs (List.replicate 256 0) (.slice none 0 0) := by
  rw [zero_bytes]
  have : ∀ z : List Nat, bytesV z ++ #[Value.slice none 0 0] = ptCs z (.slice none 0 0) := fun z => by unfold ptCs bytesV; simp
  exact this _
theorem rangesS_len (S : Nat → Nat) : (rangesS S).length ≤ 256 := runs_len _ _
theorem rangesS_ends (S : Nat → Nat) (i : Nat) (hi : i < (rangesS S).length) : (rangesS S)[i].1 ≤ (rangesS S)[i].2 ∧ (rangesS S)[i].2 < 256 := runs_ends' _ _ _ (List.getElem_mem hi)
theorem pairs_at : ∀ (l : List (Nat × Nat)) (i : Nat) (hi : i < l.length), (pairs l)[2 * i]? = some (.int .u8 l[i].1) ∧ (pairs l)[2 * i + 1]? = some (.int .u8 l[i].2)
  | x :: l, 0, _ => ⟨rfl, rfl⟩
  | x :: l, i + 1, hi => by
    have h := pairs_at l i (by simpa using hi)
    have e1 : (pairs (x :: l))[2 * (i + 1)]? = (pairs l)[2 * i]? := by
      show (Value.int .u8 x.1 :: Value.int .u8 x.2 :: pairs l)[2 * (i + 1)]? = _
      rw [show 2 * (i + 1) = 2 * i + 1 + 1 from by omega, List.getElem?_cons_succ, List.getElem?_cons_succ]
    have e2 : (pairs (x :: l))[2 * (i + 1) + 1]? = (pairs l)[2 * i + 1]? := by
      show (Value.int .u8 x.1 :: Value.int .u8 x.2 :: pairs l)[2 * (i + 1) + 1]? = _
      rw [show 2 * (i + 1) + 1 = 2 * i + 1 + 1 + 1 from by omega, List.getElem?_cons_succ, List.getElem?_cons_succ]
    rw [e1, e2]
    exact h
/-- The two cells of the i-th pair of an owned row. -/
theorem own_pair {w : World} {base g cap i : Nat} {l : List (Nat × Nat)} (h : w.ownsRow base 57 2 (.slice (some ⟨g, 0, none⟩) l.length cap) l.length (pairs l)) (hi : i < l.length) :
    w.cell? ⟨g, i * 2, none⟩ = some (.int .u8 l[i].1) ∧ w.cell? ⟨g, i * 2 + 1, none⟩ = some (.int .u8 l[i].2) := by
  rw [Nat.mul_comm i 2]
  have := pairs_at l i hi
  exact ⟨(h.cellAt _ (by omega)).trans this.1, (h.cellAt _ (by omega)).trans this.2⟩
/-- What has been filled in: i's set, its first q ranges, and from lo up to x. -/
def fillQ (K : List (Nat → Nat)) (S : Nat → Nat) (i q : Nat) (b : Nat) : Nat := if cov ((rangesS S).take q) b = true then i else keyS K i b
def fillX (K : List (Nat → Nat)) (S : Nat → Nat) (i q lo x : Nat) (b : Nat) : Nat := if cov ((rangesS S).take q) b = true ∨ (lo ≤ b ∧ b < x) then i else keyS K i b
theorem fill_0 (K : List (Nat → Nat)) (S : Nat → Nat) (i : Nat) : fnV (keyS K i) = fnV (fillQ K S i 0) := fnV_congr fun b _ => by unfold fillQ; simp [cov]
theorem fill_begin (K : List (Nat → Nat)) (S : Nat → Nat) (i q lo : Nat) : fnV (fillQ K S i q) = fnV (fillX K S i q lo lo) := fnV_congr fun b _ => by
  unfold fillQ fillX
  by_cases h : cov ((rangesS S).take q) b = true
  · rw [if_pos h, if_pos (.inl h)]
  · rw [if_neg h, if_neg (by rintro (h2 | h2); exact h h2; omega)]
theorem fill_step (K : List (Nat → Nat)) (S : Nat → Nat) (i q lo x : Nat) (hx : lo ≤ x) : (fnV (fillX K S i q lo x)).setIfInBounds x (.int .i64 (i : Nat)) = fnV (fillX K S i q lo (x + 1)) := by
  rw [fnV_set]
  refine fnV_congr fun b _ => ?_
  unfold fillX
  by_cases e : b = x
  · subst e; rw [if_pos rfl, if_pos (.inr ⟨hx, by omega⟩)]
  · rw [if_neg e]
    by_cases h : cov ((rangesS S).take q) b = true ∨ (lo ≤ b ∧ b < x)
    · rw [if_pos h, if_pos (h.imp id fun h => ⟨h.1, by omega⟩)]
    · rw [if_neg h, if_neg (fun h2 => h (h2.imp id fun h => ⟨h.1, by omega⟩))]
theorem fill_end (K : List (Nat → Nat)) (S : Nat → Nat) (i q : Nat) (hq : q < (rangesS S).length) : fnV (fillX K S i q (rangesS S)[q].1 ((rangesS S)[q].2 + 1)) = fnV (fillQ K S i (q + 1)) := fnV_congr fun b _ => by
  unfold fillX fillQ
  rw [cov_take hq]
  by_cases h : cov ((rangesS S).take q) b = true ∨ ((rangesS S)[q].1 ≤ b ∧ b < (rangesS S)[q].2 + 1)
  · rw [if_pos h, if_pos (by rcases h with h | h; rw [h]; rfl; simp; right; omega)]
  · rw [if_neg h, if_neg (by intro h2; simp at h2; exact h (h2.imp id fun h => by omega))]
theorem fill_all (K : List (Nat → Nat)) (i : Nat) (hi : i < K.length) : fnV (fillQ K K[i] i (rangesS K[i]).length) = fnV (keyS K (i + 1)) := fnV_congr fun b hb => by
  unfold fillQ
  rw [List.take_length, cov_ranges _ hb]
  show _ = if has (K.getD i zeroS) b = true then i else keyS K i b
  rw [List.getD_eq_getElem?_getD, List.getElem?_eq_getElem hi]; rfl
theorem Blk.range {w : World} {g : Nat} {t : TypeId} {cs : Array Value} (h : Blk w g t cs) : w.rangeAt g 0 cs.toList := fun j v hv => by
  rw [Nat.zero_add, h.cell]; simpa using hv
/-- The classes of the first n bytes; the others are 0. -/
def rmN (r : Nat → Nat → Bool) (n : Nat) : List Nat := (List.range 256).map fun x => if x < n then clsR r 256 x else 0
theorem rmN_len (r : Nat → Nat → Bool) (n : Nat) : (rmN r n).length = 256 := by unfold rmN; simp
theorem rmN_0 (r : Nat → Nat → Bool) : List.replicate 256 0 = rmN r 0 := by
  apply List.ext_getElem?
  intro i
  unfold rmN
  by_cases hi : i < 256
  · rw [List.getElem?_replicate, if_pos hi, List.getElem?_map, List.getElem?_range hi]; rfl
  · rw [List.getElem?_eq_none (by rw [List.length_replicate]; omega), List.getElem?_eq_none (by simp; omega)]
theorem rmN_all (l : List (Nat → Nat)) : rmN (same l) 256 = (List.range 256).map (cl l) := by
  unfold rmN
  apply List.map_congr_left
  intro x hx
  rw [if_pos (by simpa using hx)]; rfl
theorem rmN_lt {r : Nat → Nat → Bool} (E : Eqv r) : ∀ n ∈ rmN r 256, n < 256 := by
  intro n hn
  unfold rmN at hn
  obtain ⟨x, hx, rfl⟩ := List.mem_map.1 hn
  split
  · rename_i h
    have h1 := clsR_lt E.refl h
    have h2 := reps_len r 256
    omega
  · omega
theorem ptCs_set (m : List Nat) (v : Value) {b : Nat} (hb : b < m.length) (n : Nat) : (ptCs m v).setIfInBounds b (.int .u8 (n : Nat)) = ptCs (m.set b n) v := by
  unfold ptCs
  rw [List.setIfInBounds_toArray, List.set_append_left _ _ (by rw [List.length_map]; exact hb), List.map_set]
theorem ptCs_setR (m : List Nat) (u v : Value) (h : m.length = 256) : (ptCs m u).setIfInBounds 256 v = ptCs m v := by
  unfold ptCs
  rw [List.setIfInBounds_toArray, List.set_append_right _ _ (by rw [List.length_map, h]; exact Nat.le_refl _), List.length_map, h]; rfl
theorem rmN_set (r : Nat → Nat → Bool) {b : Nat} (hb : b < 256) : (rmN r b).set b (clsR r 256 b) = rmN r (b + 1) := by
  apply List.ext_getElem?
  intro i
  rw [List.getElem?_set]
  by_cases hi : i < 256
  · unfold rmN
    rw [List.getElem?_map, List.getElem?_map, List.getElem?_range hi]
    by_cases e : b = i
    · subst e
      rw [if_pos rfl, if_pos (by simp; exact hb)]
      simp
    · rw [if_neg e]
      simp only [Option.map_some]
      congr 1
      by_cases h : i < b
      · rw [if_pos h, if_pos (by omega)]
      · rw [if_neg h, if_neg (by omega)]
  · rw [List.getElem?_eq_none (l := rmN r (b + 1)) (by rw [rmN_len]; omega)]
    split
    · split
      · rename_i h; rw [rmN_len] at h; omega
      · rfl
    · exact List.getElem?_eq_none (by rw [rmN_len]; omega)
theorem rm_set (r : Nat → Nat → Bool) (v : Value) {b : Nat} (hb : b < 256) : (ptCs (rmN r b) v).setIfInBounds b (.int .u8 (clsR r 256 b : Nat)) = ptCs (rmN r (b + 1)) v := by
  rw [ptCs_set _ _ (by rw [rmN_len]; exact hb), rmN_set r hb]
theorem NumAt.grown {w w' : World} {b : Nat} {l : List Nat} {row : Option Nat} (h : NumAt w b l) (k : w.grownBy w' row) (hr : row ≠ some b) : NumAt w' b l := by
  obtain ⟨D, h1, h3⟩ := h
  exact ⟨D, h1.kept k (fun e => hr e.symm), h3⟩
theorem info_setz : (Tryd.prog.info? 35).map (fun i => (i.zero, i.size, i.bytes)) = some (some (.agg #[.int .u64 0, .int .u64 0, .int .u64 0, .int .u64 0]), 4, 32) := by kernel_rfl
theorem fn_zero (K : List (Nat → Nat)) : (fnV fun _ => 0) = fnV (keyS K 0) := fnV_congr fun _ _ => rfl
theorem reps_zero (r : Nat → Nat → Bool) : reps r 0 = [] := rfl
attribute [local irreducible] rangesS reps rmN clsR fnV ptCs keyS
set_option maxHeartbeats 2000000 in
set_option maxRecDepth 100000 in
theorem number_c (l K : List (Nat → Nat)) (hP : Part l K) (hl : K.length ≤ 256) (v : Value) (w : World) (hv : SetsR w v K) : Calls Tryd.prog 24 #[v] w fun e w' => ∃ p, e = .returned (.pointer (some ⟨p, 0, none⟩)) ∧ w.heap.size ≤ p ∧ PtR w' p ((List.range 256).map (cl l)) ((reps (same l) 256).map fun a => K.getD (keyS K K.length a) zeroS) ∧ Below w.heap.size w w' := by
  have HV := Lib.hid hv
  obtain ⟨i0, hti, hz0, hz1, hz2⟩ := info_parts info_setz
  obtain ⟨ao, cap, rfl, _⟩ := hv
  have Z := (zero_of_info info_ai).1
  rw [zero_fn] at Z
  have BB := build_ai
  have ZP := (zero_of_info info_pt).1
  rw [zero_pt] at ZP
  have SZ : (Tryd.prog.info? 26).map (·.size) = some (fnV fun _ => 0).size := by rw [(zero_of_info info_ai).2, fnV_size]
  have e4 := fnV_size fun _ => 0
  have ST := run_storeCells_new (P := Tryd.prog) (w.alloc (.cells (ptCs (List.replicate 256 0) (.slice none 0 0)) 53)) 26 (fnV fun _ => 0) (fnV fun _ => 0) SZ rfl (fnV_one _)
  rw [show (w.alloc (.cells (ptCs (List.replicate 256 0) (.slice none 0 0)) 53)).heap.size = w.heap.size + 1 from by simp] at ST
  have P0 := Lib.hid ((Blk.made w 53 (ptCs (List.replicate 256 0) (.slice none 0 0))).alloc (.cells (fnV fun _ => 0) 26))
  have F0 := Lib.hid (show Blk ((w.alloc (.cells (ptCs (List.replicate 256 0) (.slice none 0 0)) 53)).alloc (.cells (fnV fun _ => 0) 26)) (w.heap.size + 1) 26 (fnV fun _ => 0) from by
    have := Blk.made (w.alloc (.cells (ptCs (List.replicate 256 0) (.slice none 0 0)) 53)) 26 (fnV fun _ => 0)
    rw [World.size_alloc] at this
    exact this)
  have W0 := Lib.hid (below_alloc (below_alloc (Below.refl w.heap.size w) (.cells (ptCs (List.replicate 256 0) (.slice none 0 0)) 53)) (.cells (fnV fun _ => 0) 26))
  clear SZ
  generalize hz0 : List.replicate 256 0 = z0 at *
  have HZ0 := Lib.hid hz0
  clear hz0
  generalize hfz : (fnV fun _ => 0) = fz at *
  have HFZ := Lib.hid hfz
  clear hfz
  generalize hpz : ptCs z0 (.slice none 0 0) = pz at *
  have HPZ := Lib.hid hpz
  clear hpz
  go_enter Tryd.func24, Tryd.ntmps24
  go_wp2_with fail
  clear Z BB ZP ST e4
  go_loopw [20] (fun i wr => ∃ k : Nat, k ≤ K.length ∧ i = .int .i64 k ∧ Blk wr (w.heap.size + 1) 26 (fnV (keyS K k)) ∧ Blk wr w.heap.size 53 pz ∧ Below w.heap.size w wr) (fun i _ => K.length - (intOf i).toNat)
  case atStart => exact ⟨0, by omega, rfl, F0.out.cast (HFZ.out.symm.trans (fn_zero K)), P0.out, W0.out⟩
  case round =>
    clear F0 P0 W0 HFZ
    obtain ⟨k, hk, rfl, hf, hp, hw⟩ := hrel
    by_cases hlt : k < K.length
    · have t1 : decide (k < K.length) = true := by simp; omega
      have hS := hP.ok _ (List.getElem_mem hlt)
      have RC := Lib.hid (fun w1 => ranges_c K[k] hS w1)
      have FA := Lib.hid (fill_all K k hlt)
      have F1 := Lib.hid (fill_0 K K[k] k)
      obtain ⟨ao1, cap1, e1, hc⟩ := HV.out.below hw
      cases e1
      obtain ⟨b, off, rfl, hb', hc⟩ := hc (by omega)
      obtain ⟨c0, c1, c2, c3⟩ := hc k hlt
      have rl := rangesS_len K[k]
      have re := Lib.hid (rangesS_ends K[k])
      have FB := Lib.hid (fun q lo => fill_begin K K[k] k q lo)
      have FS := Lib.hid (fun q lo x hx => fill_step K K[k] k q lo x hx)
      have FE := Lib.hid (fun q (hq : q < (rangesS K[k]).length) => fill_end K K[k] k q hq)
      generalize K[k] = S at *
      have HF := Lib.hid (hf.alloc (.cells (setCs S) 35))
      have HPB := Lib.hid (hp.alloc (.cells (setCs S) 35))
      have HW := Lib.hid (below_alloc hw (.cells (setCs S) 35))
      have hl1 := hf.lt
      clear hf hp hw hc hS
      unfold setCs at HF HPB HW
      unfold setV at RC
      go_wp2_with fail
      refine (RC.out _).mono ?_; rintro e w1 ⟨v1, rfl, ho1, k1⟩
      have HF1 := Lib.hid (HF.out.below k1)
      have HP1 := Lib.hid (HPB.out.below k1)
      have HW1 := Lib.hid (below_step HW.out k1)
      have HO1 := Lib.hid ho1
      obtain ⟨ao2, cap2, rfl, hv2⟩ := own_form ho1
      have HV2 := Lib.hid hv2
      have hws := HW.out.size
      clear HF HPB HW k1 ho1 hv2 RC c0 c1 c2 c3
      go_wp2_with fail
      go_loopw [28] (fun j wx => ∃ q : Nat, q ≤ (rangesS S).length ∧ j = .int .i64 q ∧ Blk wx (w.heap.size + 1) 26 (fnV (fillQ K S k q)) ∧ Blk wx w.heap.size 53 pz ∧ wx.ownsRow (w.heap.size + 1 + 1) 57 2 (.slice ao2 (rangesS S).length cap2) (rangesS S).length (pairs (rangesS S)) ∧ Below w.heap.size w wx) (fun j _ => (rangesS S).length - (intOf j).toNat)
      case atStart => exact ⟨0, by omega, rfl, by rw [← F1.out]; exact HF1.out, HP1.out, own_mono HO1.out (by rw [World.size_alloc]; omega), HW1.out⟩
      case round =>
        clear HF1 HP1 HW1 HO1
        obtain ⟨q, hq, rfl, hf, hp, ho, hw⟩ := hrel
        by_cases hlq : q < (rangesS S).length
        · have t2 : decide (q < (rangesS S).length) = true := by simp; omega
          obtain ⟨g, rfl, hg1, hg2⟩ := HV2.out (by omega)
          obtain ⟨c0, c1⟩ := own_pair ho hlq
          have he := re.out q hlq
          have FE1 := Lib.hid (FE.out q hlq)
          generalize (rangesS S)[q] = x0 at *
          obtain ⟨lo, hi⟩ := x0
          simp only at c0 c1 he FE1
          have h6 : IntKind.i64.wrap (lo : Int) = lo := IntWalk.i64_in _ (by omega)
          have h7 : IntKind.i64.wrap (hi : Int) = hi := IntWalk.i64_in _ (by omega)
          have HF := Lib.hid (hf.alloc (.cells #[.int .u8 lo, .int .u8 hi] 57))
          have HPB := Lib.hid (hp.alloc (.cells #[.int .u8 lo, .int .u8 hi] 57))
          have HO := Lib.hid (ho.alloc (.cells #[.int .u8 lo, .int .u8 hi] 57))
          have HW := Lib.hid (below_alloc hw (.cells #[.int .u8 lo, .int .u8 hi] 57))
          have HX := Lib.hid (Blk.made wr 57 #[.int .u8 lo, .int .u8 hi])
          have ls := hf.lt
          clear hf hp ho hw
          go_wp2_with fail
          go_loopw [9] (fun j wx => ∃ x : Nat, lo ≤ x ∧ x ≤ hi + 1 ∧ j = .int .i64 x ∧ Blk wx (w.heap.size + 1) 26 (fnV (fillX K S k q lo x)) ∧ Blk wx w.heap.size 53 pz ∧ wx.ownsRow (w.heap.size + 1 + 1) 57 2 (.slice (some ⟨g, 0, none⟩) (rangesS S).length cap2) (rangesS S).length (pairs (rangesS S)) ∧ Blk wx wr.heap.size 57 #[.int .u8 lo, .int .u8 hi] ∧ Below w.heap.size w wx) (fun j _ => hi + 1 - (intOf j).toNat)
          case atStart => exact ⟨lo, Nat.le_refl _, by omega, rfl, by rw [← FB.out]; exact HF.out, HPB.out, HO.out, HX.out, HW.out⟩
          case round =>
            clear HF HPB HO HW HX
            obtain ⟨x, hx1, hx2, rfl, hf, hp, ho, hbx, hw⟩ := hrel
            have c1 : wr.cell? ⟨_, 1, none⟩ = some (.int .u8 hi) := hbx.cell 1
            by_cases hlx : x ≤ hi
            · have t3 : decide (x ≤ hi) = true := by simp; omega
              have cf : wr.cell? ⟨w.heap.size + 1, x, none⟩ = some (.int .i64 (fillX K S k q lo x x : Nat)) := (hf.cell x).trans (fnV_at _ (by omega))
              have ff := hf.free x
              have HF := Lib.hid ((hf.set x (.int .i64 (k : Nat))).cast (FS.out q lo x hx1))
              have HPB := Lib.hid (hp.far (p := ⟨w.heap.size + 1, x, none⟩) (by simp) (.int .i64 (k : Nat)))
              have HO := Lib.hid (own_only ho ((Only.refl [w.heap.size + 1] wr).set (p := ⟨w.heap.size + 1, x, none⟩) (.inl (by simp)) (.int .i64 (k : Nat))) (by simp))
              have HX := Lib.hid (hbx.far (p := ⟨w.heap.size + 1, x, none⟩) (by simp; omega) (.int .i64 (k : Nat)))
              have HW := Lib.hid (below_put hw (p := ⟨w.heap.size + 1, x, none⟩) (by simp) (.int .i64 (k : Nat)))
              clear hf hp ho hbx hw
              go_wp2_with fail
              go_roundw
              case rel => exact ⟨x + 1, by omega, by omega, by go_num, HF.out, HPB.out, HO.out, HX.out, HW.out⟩
              case measure => simp [intOf]; omega
            · have t3 : decide (x ≤ hi) = false := by simp; omega
              obtain rfl : x = hi + 1 := by omega
              rw [FE1.out] at hf
              have HF := Lib.hid hf
              have HPB := Lib.hid hp
              have HO := Lib.hid ho
              have HW := Lib.hid hw
              clear hf hp ho hbx hw
              go_wp2_with fail
              go_roundw
              case rel => exact ⟨q + 1, by omega, by go_num, HF.out, HPB.out, HO.out, HW.out⟩
              case measure => simp [intOf]; omega
        · obtain rfl : q = (rangesS S).length := by omega
          rw [FA.out] at hf
          have HF := Lib.hid hf
          have HPB := Lib.hid hp
          have HW := Lib.hid hw
          clear hf hp ho hw
          go_wp2_with fail
          go_roundw
          case rel => exact ⟨k + 1, by omega, by go_num, HF.out, HPB.out, HW.out⟩
          case measure => simp [intOf]; omega
    · obtain rfl : k = K.length := by omega
      have hkl : ∀ b, keyS K K.length b < 65536 := fun b => by have := keyS_le K b K.length; omega
      have hkf := fun a b (ha : a < 256) (hb : b < 256) => keyS_same hP ha hb
      have E := eqv_same l
      have hkk : ∀ b, b < 256 → ∃ S, K[keyS K K.length b]? = some S ∧ K.getD (keyS K K.length b) zeroS = S := fun b hb => by
        obtain ⟨hk, _⟩ := keyS_part hP hb
        exact ⟨_, List.getElem?_eq_getElem hk, by rw [List.getD_eq_getElem?_getD, List.getElem?_eq_getElem hk]; rfl⟩
      generalize hkey : keyS K K.length = key at hkl hkf hkk hf
      generalize hrr : same l = r at hkf E
      have HKEY := Lib.hid hkey
      have HRR := Lib.hid hrr
      clear hkey
      have RM := Lib.hid (show (List.range 256).map (cl l) = rmN r 256 from by rw [← hrr, rmN_all])
      clear hrr
      have RG := Lib.hid (Blk.range (hf.alloc (.map #[] 0)))
      have SL := Lib.hid (show (Tryd.prog.info? 26).map (·.size) = some (fnV key).toList.length from by rw [(zero_of_info info_ai).2, Array.length_toList, fnV_size])
      have hp' := hp
      rw [← HPZ.out, ← HZ0.out, rmN_0 r] at hp'
      have HPB := Lib.hid (hp'.alloc (.map #[] 0))
      have HW := Lib.hid (below_alloc hw (.map #[] 0))
      have HM := Lib.hid (NumAt.made wr)
      have hlp := hp.lt
      have hlw := hf.lt
      clear hf hp hp' hw HPZ HZ0 hP
      have hmm := @run_makeMap Tryd.prog
      go_wp2_with fail
      refine wp_load_mid 26 _ rfl (w.heap.size + 1) 0 rfl (fnV key).toList _ RG.out Tryd.underlying26 rfl SL.out ?_
      rw [Array.toArray_toList]
      clear RG SL
      go_wp2_with fail
      have FX0 := fun b (hb : b < 256) => index_fn key hb
      generalize fnV key = FV at *
      generalize hbm : wr.heap.size = bm at *
      go_loopw [49] (fun j wx => ∃ (b : Nat) (v : Value), b ≤ 256 ∧ j = .int .i64 b ∧ Blk wx w.heap.size 53 (ptCs (rmN r b) v) ∧ wx.ownsRow (bm + 1) 35 4 v (reps r b).length (setCsL ((reps r b).map fun a => K.getD (key a) zeroS)) ∧ NumAt wx bm ((reps r b).map key) ∧ Below w.heap.size w wx) (fun j _ => 256 - (intOf j).toNat)
      case atStart => exact ⟨0, _, by omega, rfl, HPB.out, by rw [reps_zero]; exact World.ownsRow_nil _ _ _ _, by rw [reps_zero]; exact HM.out, HW.out⟩
      case round =>
        clear HPB HW HM
        obtain ⟨b, v, hb, rfl, hp, ho, hm, hw⟩ := hrel
        obtain ⟨ao3, cap3, rfl, hv3⟩ := own_form ho
        by_cases hlt : b < 256
        · have t1 : decide (b < 256) = true := by simp; omega
          have FX := FX0 b hlt wr
          have LK := hm.look (hkl b)
          have MR := mem_reps hkf E hb hlt
          have HPB := Lib.hid hp
          have HO := Lib.hid ho
          have HM := Lib.hid hm
          have HW := Lib.hid hw
          have hpl := hp.lt
          have hml := hm.lt
          have hrl := reps_len r b
          have cr : wr.cell? ⟨w.heap.size, 256, none⟩ = some (.slice ao3 (reps r b).length cap3) := (hp.cell 256).trans (ptCs_row (rmN_len r b))
          have cb := hp.free b
          clear hp ho hm hw
          by_cases hex : ∃ a, a < b ∧ r a b = true
          · rw [if_pos (MR.2 hex), decide_eq_true (MR.2 hex), idx_reps hkf hb hlt] at LK
            obtain ⟨a, ha, hra⟩ := hex
            have RO := Lib.hid (reps_old E ha hra)
            have e1 : clsR r b b = clsR r 256 b := by
              have h1 : clsR r b b = clsR r (b + 1) b := by unfold clsR; rw [RO.out]
              rw [h1, ← clsR_more E.refl (show b < b + 1 by omega) (255 - b)]
              congr 1; omega
            rw [e1] at LK
            have hc := clsR_lt E.refl (show b < 256 from hlt)
            have h256 := reps_len r 256
            have h6 : IntKind.u8.wrap (clsR r 256 b : Nat) = (clsR r 256 b : Nat) := IntWalk.u8_in _ (by omega)
            have RS := Lib.hid (fun v => rm_set r v hlt)
            generalize clsR r 256 b = n at *
            have H2 := Lib.hid ((HPB.out.set b (.int .u8 (n : Nat))).cast (RS.out _))
            have K6 : Only [w.heap.size] wr (wr.setCell ⟨w.heap.size, b, none⟩ (.int .u8 (n : Nat))) := (Only.refl _ _).set (.inl (by simp)) _
            have O2 := Lib.hid (own_only HO.out K6 (by simp; omega))
            have M2 := Lib.hid (HM.out.only K6 (by simp; omega))
            have W2 := Lib.hid (below_put HW.out (p := ⟨w.heap.size, b, none⟩) (Nat.le_refl _) (.int .u8 (n : Nat)))
            have cc : wr.cell? ⟨w.heap.size, b, none⟩ = some _ := (HPB.out.cell b).trans (ptCs_byte (by rw [rmN_len]; exact hlt))
            clear K6 MR hra e1 hc
            go_wp2_with fail
            go_roundw
            case rel => exact ⟨b + 1, _, by omega, by go_num, H2.out, by rw [RO.out]; exact O2.out, by rw [RO.out]; exact M2.out, W2.out⟩
            case measure => simp [intOf]; omega
          · have hnm : key b ∉ (reps r b).map key := fun h => hex (MR.1 h)
            have hno : ∀ a, a < b → r a b = false := fun a ha => by
              cases hh : r a b with
              | false => rfl
              | true => exact absurd ⟨a, ha, hh⟩ hex
            rw [if_neg hnm, decide_eq_false hnm] at LK
            have RN := Lib.hid (reps_new hno)
            have CN := clsR_new E hlt hno
            have RS := Lib.hid (fun v => rm_set r v hlt)
            rw [CN] at RS
            obtain ⟨S, hS1, hS2⟩ := hkk b hlt
            have SS := Lib.hid hS2
            have hkb := (List.getElem?_eq_some_iff.1 hS1).1
            have h6 : IntKind.u8.wrap ((reps r b).length : Nat) = ((reps r b).length : Nat) := IntWalk.u8_in _ (by omega)
            obtain ⟨D, d1, d2, d3, d4⟩ := HM.out
            have D1 := Lib.hid d1
            have D2 := Lib.hid d2
            have D3 := Lib.hid d3
            have D4 := Lib.hid d4
            have KX := Lib.hid (key_int (key b) (hkl b))
            have HFF := Lib.hid (fun g (h : (Value.slice ao3 (reps r b).length cap3).ownBlock = some g) => (HO.out.lt g h).1)
            have HNM := Lib.hid hnm
            clear d1 d2 d3 d4 hnm hno hex MR CN hS2
            go_wp2_with (at_mapUpdate; refine wpList_mapUpdate_own _ rfl _ _ _ 58 rfl 3 3 (Maps.int_keyed Tryd.underlying3) Tryd.underlying58 _ bm _ D rfl D1.out (by rw [List.length_map]; unfold maxLen; omega) _ _ (.int .i64 (key b)) rfl rfl KX.out (.lit (.int .i64 ((reps r b).length : Nat))) [] (plainElem_int Tryd.underlying3 (wf_i64 _ (by omega))) ?_)
            intro w4 h1 h2
            have HM4 := Lib.hid (NumAt.put (l := (reps r b).map key) (by rw [List.length_map]; exact h1) D2.out D3.out D4.out HNM.out)
            have HP4 := Lib.hid (Blk.grown HPB.out h2 (by simp; omega))
            have HO4 := Lib.hid (World.ownsRow.kept HO.out h2 (.inr (fun e => by have := HFF.out _ e; omega)))
            have HW4 := Lib.hid (Below.grown HW.out h2 (by omega) (fun k h => by cases h; omega))
            have hm4 := HM4.out.lt
            have hpl4 := HP4.out.lt
            have cr4 : w4.cell? ⟨w.heap.size, 256, none⟩ = some (.slice ao3 (reps r b).length cap3) := (HP4.out.cell 256).trans (ptCs_row (rmN_len r b))
            obtain ⟨ao9, cap9, e9, hc9⟩ := HV.out.below HW4.out
            cases e9
            obtain ⟨bs, off, rfl, hbs, hc9⟩ := hc9 (by omega)
            have hbw : bs < w.heap.size := by
              obtain ⟨ao8, cap8, e8, hc8⟩ := HV.out
              cases e8
              obtain ⟨bs8, off8, e8, hbs8, _⟩ := hc8 (by omega)
              cases e8
              exact hbs8
            have hc9 := hc9 (key b) hkb
            rw [(List.getElem?_eq_some_iff.1 hS1).2] at hc9
            obtain ⟨c0, c1, c2, c3⟩ := hc9
            clear h1 h2 HPB HO HM HW D1 D2 D3 D4 KX LK FX cr cb
            go_wp2_with fail
            refine wp_region_held_drew (S := fun w' => w'.cell? ⟨bs, off + key b * 4, none⟩ = some (.int .u64 (S 0)) ∧ w'.cell? ⟨bs, off + key b * 4 + 1, none⟩ = some (.int .u64 (S 1)) ∧ w'.cell? ⟨bs, off + key b * 4 + 2, none⟩ = some (.int .u64 (S 2)) ∧ w'.cell? ⟨bs, off + key b * 4 + 3, none⟩ = some (.int .u64 (S 3))) (by kernel_rfl) ⟨c0, c1, c2, c3⟩ (fun hHeld => ?_)
            refine' wpAnyH_take (i := 0) (v := _) rfl (by kernel_rfl) (by kernel_rfl) (by kernel_rfl) (fun _ _ _ h => h) (Or.inl ⟨by rfl, ?hy0⟩) (by assumption) ?r0
            case hy0 => (intro w hSw; (try dsimp only at hSw); go_simp; with_reducible rfl)
            try simp only [Act.put]
            refine' wpAnyH_take (i := 1) (v := _) rfl (by kernel_rfl) (by kernel_rfl) (by kernel_rfl) (fun _ _ _ h => h) (Or.inl ⟨by rfl, ?hy1⟩) (by assumption) ?r1
            case hy1 => (intro w hSw; (try dsimp only at hSw); go_simp; with_reducible rfl)
            try simp only [Act.put]
            refine' wpAnyH_take (i := 2) (v := _) rfl (by kernel_rfl) (by kernel_rfl) (by kernel_rfl) (fun _ _ _ h => h) (Or.inl ⟨by rfl, ?hy2⟩) (by assumption) ?r2
            case hy2 => (intro w hSw; (try dsimp only at hSw); go_simp; with_reducible rfl)
            try simp only [Act.put]
            refine' wpAnyH_take (i := 3) (v := _) rfl (by kernel_rfl) (by kernel_rfl) (by kernel_rfl) (fun _ _ _ h => h) (Or.inl ⟨by rfl, ?hy3⟩) (by assumption) ?r3
            case hy3 => (intro w hSw; (try dsimp only at hSw); go_simp; with_reducible rfl)
            try simp only [Act.put]
            refine' wpAnyH_take (i := 5) (v := _) rfl (by kernel_rfl) (by kernel_rfl) (by kernel_rfl) (fun _ _ _ h => h) (Or.inl ⟨by rfl, ?hy5⟩) (by assumption) ?r5
            case hy5 => (intro w hSw; (try dsimp only at hSw); go_simp; with_reducible rfl)
            try simp only [Act.put]
            refine' wpAnyH_take (i := 6) (v := _) rfl (by kernel_rfl) (by kernel_rfl) (by kernel_rfl) (fun _ _ _ h => h) (Or.inl ⟨by rfl, ?hy6⟩) (by assumption) ?r6
            case hy6 => (intro w hSw; (try dsimp only at hSw); go_simp; with_reducible rfl)
            try simp only [Act.put]
            refine' wpAnyH_take (i := 7) (v := _) rfl (by kernel_rfl) (by kernel_rfl) (by kernel_rfl) (fun _ _ _ h => h) (Or.inl ⟨by rfl, ?hy7⟩) (by assumption) ?r7
            case hy7 => (intro w hSw; (try dsimp only at hSw); go_simp; with_reducible rfl)
            try simp only [Act.put]
            refine' wpAnyH_take (i := 8) (v := _) rfl (by kernel_rfl) (by kernel_rfl) (by kernel_rfl) (fun _ _ _ h => h) (Or.inl ⟨by rfl, ?hy8⟩) (by assumption) ?r8
            case hy8 => (intro w hSw; (try dsimp only at hSw); go_simp; with_reducible rfl)
            try simp only [Act.put]
            have X0 : ∀ t, ((w4.drew).alloc t).cell? ⟨bs, off + key b * 4, none⟩ = some (.int .u64 (S 0)) := fun t => (World.cell?_alloc_lt _ _ _ hbs).trans c0
            have X1 : ∀ t, ((w4.drew).alloc t).cell? ⟨bs, off + key b * 4 + 1, none⟩ = some (.int .u64 (S 1)) := fun t => (World.cell?_alloc_lt _ _ _ hbs).trans c1
            have X2 : ∀ t, ((w4.drew).alloc t).cell? ⟨bs, off + key b * 4 + 2, none⟩ = some (.int .u64 (S 2)) := fun t => (World.cell?_alloc_lt _ _ _ hbs).trans c2
            have X3 : ∀ t, ((w4.drew).alloc t).cell? ⟨bs, off + key b * 4 + 3, none⟩ = some (.int .u64 (S 3)) := fun t => (World.cell?_alloc_lt _ _ _ hbs).trans c3
            have X4 : ((w4.drew).alloc (.cells #[.int .u64 (S 0), .int .u64 (S 1), .int .u64 (S 2), .int .u64 (S 3)] 35 (0, 0))).cell? ⟨w.heap.size, 256, none⟩ = some (.slice ao3 (reps r b).length cap3) := (World.cell?_alloc_lt _ _ _ hpl4).trans cr4
            have X5 : (w4.drew).cell? ⟨w.heap.size, 256, none⟩ = some (.slice ao3 (reps r b).length cap3) := cr4
            refine wpAnyH_ready (rs := [4, 9]) (by kernel_rfl) (by simp) (AllReadyH.cons rfl (fun K' hK => ?_) (AllReadyH.cons rfl (fun K' hK => ?_) AllReadyH.nil))
            · go_simp
              refine hK.out _ _ hHeld (fun _ => ?_)
              clear hK K'
              refine wpAnyH_ready (rs := [9]) (by kernel_rfl) (by simp) (AllReadyH.cons rfl (fun K' hK => ?_) AllReadyH.nil)
              go_simp
              refine hK.out _ _ ⟨X0 _, X1 _, X2 _, X3 _⟩ (fun _ => ?_)
              clear hK K'
              refine wpAnyH_ready (rs := [10]) (by kernel_rfl) (by simp) (AllReadyH.cons rfl (fun K' hK => ?_) AllReadyH.nil)
              refine step_append_lies _ (by rfl) _ _ _ (by rfl) (bm + 1) 35 i0 _ 4 32 Tryd.underlying22 hti hz0 hz1 hz2 rfl (by omega) (.slice ao3 (reps r b).length cap3) (reps r b).length (setCsL ((reps r b).map fun a => K.getD (key a) zeroS)) (by rfl) ((HO4.out.drew).alloc _) ⟨w4.heap.size, 0, none⟩ 1 1 [.int .u64 (S 0), .int .u64 (S 1), .int .u64 (S 2), .int .u64 (S 3)] (by rfl) (by rfl) (World.news_of_block (cs := #[_, _, _, _]) (t := 35) (fr := (0, 0)) (heap_alloc_new w4.drew _)) (by simp [Value.oneCell']) (by omega) (by unfold maxLen; omega) (by omega) (by simp; omega) (w4.heap.size + 1) (by simp) ?_
              intro gg cap5 w5 hown5 hgrow hat hlt5
              have G3 : ∀ o, w5.cell? ⟨bs, o, none⟩ = (w4.drew.alloc (.cells #[.int .u64 (S 0), .int .u64 (S 1), .int .u64 (S 2), .int .u64 (S 3)] 35 (0, 0))).cell? ⟨bs, o, none⟩ := fun o => hgrow.cell_far ⟨bs, o, none⟩ (by simp; omega) (fun e => by have h7 : bm + 1 ≤ bs := HFF.out _ e.symm; omega)
              have S5 : w5.cell? ⟨bs, off + key b * 4, none⟩ = some (.int .u64 (S 0)) ∧ w5.cell? ⟨bs, off + key b * 4 + 1, none⟩ = some (.int .u64 (S 1)) ∧ w5.cell? ⟨bs, off + key b * 4 + 2, none⟩ = some (.int .u64 (S 2)) ∧ w5.cell? ⟨bs, off + key b * 4 + 3, none⟩ = some (.int .u64 (S 3)) := ⟨(G3 _).trans (X0 _), (G3 _).trans (X1 _), (G3 _).trans (X2 _), (G3 _).trans (X3 _)⟩
              have HB5 := Blk.grown (Blk.alloc (HP4.out.drew) (.cells #[.int .u64 (S 0), .int .u64 (S 1), .int .u64 (S 2), .int .u64 (S 3)] 35 (0, 0))) hgrow (fun e => by have := HFF.out _ e.symm; omega)
              have HM5 := Lib.hid (NumAt.grown (NumAt.only HM4.out (((Only.refl [] w4).drew).alloc (.cells #[.int .u64 (S 0), .int .u64 (S 1), .int .u64 (S 2), .int .u64 (S 3)] 35 (0, 0))) (by simp)) hgrow (fun e => by have := HFF.out _ e; omega))
              have HW5 := Lib.hid (Below.grown (below_alloc (below_draws HW4.out 1) (.cells #[.int .u64 (S 0), .int .u64 (S 1), .int .u64 (S 2), .int .u64 (S 3)] 35 (0, 0))) hgrow (by rw [World.size_alloc]; show w.heap.size ≤ w4.heap.size + 1; omega) (fun k h => by have := HFF.out k h; omega))
              have c5 : w5.cell? ⟨w.heap.size, 256, none⟩ = some (.slice ao3 (reps r b).length cap3) := (HB5.cell 256).trans (ptCs_row (rmN_len r b))
              have f5 := HB5.free 256
              have H5 := Lib.hid HB5
              have HO5 := Lib.hid hown5
              have S7 : w4.heap.size + 1 ≤ w5.heap.size := by simpa using hgrow.size
              clear HB5 hown5 hgrow
              refine hK.out _ _ S5 (fun hHeld => ?_)
              clear hK K'
              refine wpAnyH_ready (rs := [11]) (by kernel_rfl) (by simp) (AllReadyH.cons rfl (fun K' hK => ?_) AllReadyH.nil)
              go_simp
              refine hK.out _ _ hHeld (fun _ => ?_)
              clear hK K'
              refine wpAnyH_ready (rs := [12]) (by kernel_rfl) (by simp) (AllReadyH.cons rfl (fun K' hK => ?_) AllReadyH.nil)
              go_simp
              refine hK.out _ _ hHeld (fun _ => ?_)
              clear hK K'
              refine wpAnyH_ready (rs := [13]) (by kernel_rfl) (by simp) (AllReadyH.cons rfl (fun K' hK => ?_) AllReadyH.nil)
              go_simp
              refine hK.out _ _ ⟨(World.cell?_setCell_far _ _ _ _ (by simp; omega)).trans hHeld.1, (World.cell?_setCell_far _ _ _ _ (by simp; omega)).trans hHeld.2.1, (World.cell?_setCell_far _ _ _ _ (by simp; omega)).trans hHeld.2.2.1, (World.cell?_setCell_far _ _ _ _ (by simp; omega)).trans hHeld.2.2.2⟩ (fun _ => ?_)
              clear hK K' hHeld S5 G3
              refine wpAnyH_done (by kernel_rfl) ?_ _
              have H6 := (H5.out.set 256 (.slice (some ⟨gg, 0, none⟩) ((reps r b).length + 1) cap5)).cast (ptCs_setR _ _ _ (rmN_len r b))
              have K6 : Only [w.heap.size] w5 (w5.setCell ⟨w.heap.size, 256, none⟩ (.slice (some ⟨gg, 0, none⟩) ((reps r b).length + 1) cap5)) := (Only.refl _ _).set (.inl (by simp)) _
              have O6 := own_only HO5.out K6 (by simp; omega)
              have M6 := HM5.out.only K6 (by simp; omega)
              have W6 := below_put HW5.out (p := ⟨w.heap.size, 256, none⟩) (Nat.le_refl _) (.slice (some ⟨gg, 0, none⟩) ((reps r b).length + 1) cap5)
              have cc6 : (w5.setCell ⟨w.heap.size, 256, none⟩ (.slice (some ⟨gg, 0, none⟩) ((reps r b).length + 1) cap5)).cell? ⟨w.heap.size, b, none⟩ = some _ := (H6.cell b).trans (ptCs_byte (by rw [rmN_len]; exact hlt))
              have cf6 := H6.free b
              have H7 := Lib.hid ((H6.set b (.int .u8 ((reps r b).length : Nat))).cast (RS.out _))
              have K7 : Only [w.heap.size] (w5.setCell ⟨w.heap.size, 256, none⟩ (.slice (some ⟨gg, 0, none⟩) ((reps r b).length + 1) cap5)) ((w5.setCell ⟨w.heap.size, 256, none⟩ (.slice (some ⟨gg, 0, none⟩) ((reps r b).length + 1) cap5)).setCell ⟨w.heap.size, b, none⟩ (.int .u8 ((reps r b).length : Nat))) := (Only.refl _ _).set (.inl (by simp)) _
              have O7 := Lib.hid (own_only O6 K7 (by simp; omega))
              have M7 := Lib.hid (M6.only K7 (by simp; omega))
              have W7 := Lib.hid (below_put W6 (p := ⟨w.heap.size, b, none⟩) (Nat.le_refl _) (.int .u8 ((reps r b).length : Nat)))
              clear K6 K7 H5 HO5 HM5 HW5 H6 O6 M6 W6 c5 f5
              go_wp2_with fail
              go_roundw
              case rel => exact ⟨b + 1, _, by omega, by go_num, H7.out, by rw [RN.out, List.length_append, List.map_append, List.map_singleton, setCsL_snoc, SS.out]; exact O7.out, by rw [RN.out, List.map_append]; exact M7.out, W7.out⟩
              case measure => go_light; simp [intOf]; omega
            · go_simp
              refine hK.out _ _ ⟨X0 _, X1 _, X2 _, X3 _⟩ (fun _ => ?_)
              clear hK K'
              refine wpAnyH_ready (rs := [4]) (by kernel_rfl) (by simp) (AllReadyH.cons rfl (fun K' hK => ?_) AllReadyH.nil)
              go_simp
              refine hK.out _ _ ⟨X0 _, X1 _, X2 _, X3 _⟩ (fun _ => ?_)
              clear hK K'
              refine wpAnyH_ready (rs := [10]) (by kernel_rfl) (by simp) (AllReadyH.cons rfl (fun K' hK => ?_) AllReadyH.nil)
              refine step_append_lies _ (by rfl) _ _ _ (by rfl) (bm + 1) 35 i0 _ 4 32 Tryd.underlying22 hti hz0 hz1 hz2 rfl (by omega) (.slice ao3 (reps r b).length cap3) (reps r b).length (setCsL ((reps r b).map fun a => K.getD (key a) zeroS)) (by rfl) ((HO4.out.drew).alloc _) ⟨w4.heap.size, 0, none⟩ 1 1 [.int .u64 (S 0), .int .u64 (S 1), .int .u64 (S 2), .int .u64 (S 3)] (by rfl) (by rfl) (World.news_of_block (cs := #[_, _, _, _]) (t := 35) (fr := (0, 0)) (heap_alloc_new w4.drew _)) (by simp [Value.oneCell']) (by omega) (by unfold maxLen; omega) (by omega) (by simp; omega) (w4.heap.size + 1) (by simp) ?_
              intro gg cap5 w5 hown5 hgrow hat hlt5
              have G3 : ∀ o, w5.cell? ⟨bs, o, none⟩ = (w4.drew.alloc (.cells #[.int .u64 (S 0), .int .u64 (S 1), .int .u64 (S 2), .int .u64 (S 3)] 35 (0, 0))).cell? ⟨bs, o, none⟩ := fun o => hgrow.cell_far ⟨bs, o, none⟩ (by simp; omega) (fun e => by have h7 : bm + 1 ≤ bs := HFF.out _ e.symm; omega)
              have S5 : w5.cell? ⟨bs, off + key b * 4, none⟩ = some (.int .u64 (S 0)) ∧ w5.cell? ⟨bs, off + key b * 4 + 1, none⟩ = some (.int .u64 (S 1)) ∧ w5.cell? ⟨bs, off + key b * 4 + 2, none⟩ = some (.int .u64 (S 2)) ∧ w5.cell? ⟨bs, off + key b * 4 + 3, none⟩ = some (.int .u64 (S 3)) := ⟨(G3 _).trans (X0 _), (G3 _).trans (X1 _), (G3 _).trans (X2 _), (G3 _).trans (X3 _)⟩
              have HB5 := Blk.grown (Blk.alloc (HP4.out.drew) (.cells #[.int .u64 (S 0), .int .u64 (S 1), .int .u64 (S 2), .int .u64 (S 3)] 35 (0, 0))) hgrow (fun e => by have := HFF.out _ e.symm; omega)
              have HM5 := Lib.hid (NumAt.grown (NumAt.only HM4.out (((Only.refl [] w4).drew).alloc (.cells #[.int .u64 (S 0), .int .u64 (S 1), .int .u64 (S 2), .int .u64 (S 3)] 35 (0, 0))) (by simp)) hgrow (fun e => by have := HFF.out _ e; omega))
              have HW5 := Lib.hid (Below.grown (below_alloc (below_draws HW4.out 1) (.cells #[.int .u64 (S 0), .int .u64 (S 1), .int .u64 (S 2), .int .u64 (S 3)] 35 (0, 0))) hgrow (by rw [World.size_alloc]; show w.heap.size ≤ w4.heap.size + 1; omega) (fun k h => by have := HFF.out k h; omega))
              have c5 : w5.cell? ⟨w.heap.size, 256, none⟩ = some (.slice ao3 (reps r b).length cap3) := (HB5.cell 256).trans (ptCs_row (rmN_len r b))
              have f5 := HB5.free 256
              have H5 := Lib.hid HB5
              have HO5 := Lib.hid hown5
              have S7 : w4.heap.size + 1 ≤ w5.heap.size := by simpa using hgrow.size
              clear HB5 hown5 hgrow
              refine hK.out _ _ S5 (fun hHeld => ?_)
              clear hK K'
              refine wpAnyH_ready (rs := [11]) (by kernel_rfl) (by simp) (AllReadyH.cons rfl (fun K' hK => ?_) AllReadyH.nil)
              go_simp
              refine hK.out _ _ hHeld (fun _ => ?_)
              clear hK K'
              refine wpAnyH_ready (rs := [12]) (by kernel_rfl) (by simp) (AllReadyH.cons rfl (fun K' hK => ?_) AllReadyH.nil)
              go_simp
              refine hK.out _ _ hHeld (fun _ => ?_)
              clear hK K'
              refine wpAnyH_ready (rs := [13]) (by kernel_rfl) (by simp) (AllReadyH.cons rfl (fun K' hK => ?_) AllReadyH.nil)
              go_simp
              refine hK.out _ _ ⟨(World.cell?_setCell_far _ _ _ _ (by simp; omega)).trans hHeld.1, (World.cell?_setCell_far _ _ _ _ (by simp; omega)).trans hHeld.2.1, (World.cell?_setCell_far _ _ _ _ (by simp; omega)).trans hHeld.2.2.1, (World.cell?_setCell_far _ _ _ _ (by simp; omega)).trans hHeld.2.2.2⟩ (fun _ => ?_)
              clear hK K' hHeld S5 G3
              refine wpAnyH_done (by kernel_rfl) ?_ _
              have H6 := (H5.out.set 256 (.slice (some ⟨gg, 0, none⟩) ((reps r b).length + 1) cap5)).cast (ptCs_setR _ _ _ (rmN_len r b))
              have K6 : Only [w.heap.size] w5 (w5.setCell ⟨w.heap.size, 256, none⟩ (.slice (some ⟨gg, 0, none⟩) ((reps r b).length + 1) cap5)) := (Only.refl _ _).set (.inl (by simp)) _
              have O6 := own_only HO5.out K6 (by simp; omega)
              have M6 := HM5.out.only K6 (by simp; omega)
              have W6 := below_put HW5.out (p := ⟨w.heap.size, 256, none⟩) (Nat.le_refl _) (.slice (some ⟨gg, 0, none⟩) ((reps r b).length + 1) cap5)
              have cc6 : (w5.setCell ⟨w.heap.size, 256, none⟩ (.slice (some ⟨gg, 0, none⟩) ((reps r b).length + 1) cap5)).cell? ⟨w.heap.size, b, none⟩ = some _ := (H6.cell b).trans (ptCs_byte (by rw [rmN_len]; exact hlt))
              have cf6 := H6.free b
              have H7 := Lib.hid ((H6.set b (.int .u8 ((reps r b).length : Nat))).cast (RS.out _))
              have K7 : Only [w.heap.size] (w5.setCell ⟨w.heap.size, 256, none⟩ (.slice (some ⟨gg, 0, none⟩) ((reps r b).length + 1) cap5)) ((w5.setCell ⟨w.heap.size, 256, none⟩ (.slice (some ⟨gg, 0, none⟩) ((reps r b).length + 1) cap5)).setCell ⟨w.heap.size, b, none⟩ (.int .u8 ((reps r b).length : Nat))) := (Only.refl _ _).set (.inl (by simp)) _
              have O7 := Lib.hid (own_only O6 K7 (by simp; omega))
              have M7 := Lib.hid (M6.only K7 (by simp; omega))
              have W7 := Lib.hid (below_put W6 (p := ⟨w.heap.size, b, none⟩) (Nat.le_refl _) (.int .u8 ((reps r b).length : Nat)))
              clear K6 K7 H5 HO5 HM5 HW5 H6 O6 M6 W6 c5 f5
              go_wp2_with fail
              go_roundw
              case rel => exact ⟨b + 1, _, by omega, by go_num, H7.out, by rw [RN.out, List.length_append, List.map_append, List.map_singleton, setCsL_snoc, SS.out]; exact O7.out, by rw [RN.out, List.map_append]; exact M7.out, W7.out⟩
              case measure => go_light; simp [intOf]; omega
        · obtain rfl : b = 256 := by omega
          have HPB := Lib.hid hp
          have HW := Lib.hid hw
          have SR := Lib.hid (own_sets (l := (reps r 256).map fun a => K.getD (key a) zeroS) (by rw [List.length_map]; exact ho))
          have MB := Lib.hid (rmN_lt E)
          clear hp ho hm hw
          go_wp2_with fail
          go_returns
          refine ⟨w.heap.size, rfl, Nat.le_refl _, ?_, HW.out⟩
          rw [RM.out, HRR.out, HKEY.out]
          exact ⟨rmN_len r 256, MB.out, _, HPB.out, SR.out⟩
end Go.Proofs.YtonicgbejmghkaaDoor
