/- The walk of BytesCount. -/
import Derived.Test.YtgcbcmgadllhlaaDoorLaws04
import Derived.Test.YtgcbcmgadllhlaaDoorTextInj
namespace Go.Proofs.YtgcbcmgadllhlaaDoor
open Go.RowKit
theorem runs_pair (p : Nat → Bool) : ∀ n, (runs p n).Pairwise (fun x y => x.2 + 1 < y.1)
  | 0 => List.Pairwise.nil
  | n + 1 => by
    have ih := runs_pair p n
    by_cases h : p n = true
    · by_cases g : n = 0 ∨ p (n - 1) = false
      · rw [runs_begin p n h g, List.pairwise_append]
        refine ⟨ih, List.pairwise_singleton _ _, fun x hx y hy => ?_⟩
        obtain rfl : y = (n, n) := by simpa using hy
        show x.2 + 1 < n
        rcases Nat.eq_zero_or_pos n with h0 | h0
        · subst h0; cases hx
        · obtain ⟨m, rfl⟩ : ∃ m, n = m + 1 := ⟨n - 1, by omega⟩
          have g' : ¬ p m = true := by
            rcases g with g | g
            · omega
            · show ¬ p m = true
              rw [show p m = false from g]; simp
          rw [runs_no g'] at hx
          have := (runs_ends p m x hx).2
          omega
      · obtain ⟨m, rfl⟩ : ∃ m, n = m + 1 := ⟨n - 1, by omega⟩
        have g' : p m = true := by
          cases hp : p m with
          | true => rfl
          | false => exact absurd (.inr hp) g
        obtain ⟨l, a, e, ha⟩ := runs_last p m g'
        rw [runs_on p m a l e h g']
        rw [e, List.pairwise_append] at ih
        rw [List.pairwise_append]
        refine ⟨ih.1, List.pairwise_singleton _ _, fun x hx y hy => ?_⟩
        obtain rfl : y = (a, m + 1) := by simpa using hy
        exact ih.2.2 x hx (a, m) (by simp)
    · rw [runs_no h]; exact ih
/-- Where the last range ends. -/
def lastAt (l : List (Nat × Nat)) (k : Nat) : Int := if k = 0 then -2 else ((l.getD (k - 1) (0, 0)).2 : Nat)
theorem lastAt_succ {l : List (Nat × Nat)} {k : Nat} (hk : k < l.length) : lastAt l (k + 1) = (l[k].2 : Nat) := by
  unfold lastAt
  rw [if_neg (by omega), Nat.add_sub_cancel, List.getD_eq_getElem?_getD, List.getElem?_eq_getElem hk]; rfl
theorem lastAt_lt (S : Nat → Nat) {k : Nat} (hk : k < (rangesS S).length) : lastAt (rangesS S) k + 1 < ((rangesS S)[k].1 : Nat) ∧ -2 ≤ lastAt (rangesS S) k ∧ lastAt (rangesS S) k < 256 := by
  rcases Nat.eq_zero_or_pos k with h | h
  · subst h; unfold lastAt; rw [if_pos rfl]; omega
  · obtain ⟨j, rfl⟩ : ∃ j, k = j + 1 := ⟨k - 1, by omega⟩
    rw [lastAt_succ (by omega)]
    have h1 := List.pairwise_iff_getElem.1 (runs_pair (has S) 256) j (j + 1) (by have : j + 1 < (runs (has S) 256).length := hk; omega) hk (by omega)
    have h1' : (rangesS S)[j].2 + 1 < (rangesS S)[j + 1].1 := h1
    have h2 := rangesS_ends S j (by omega)
    omega
def sumAt (S : Nat → Nat) (k : Nat) : Nat := (bytesOf ((rangesS S).take k)).length
theorem span_len (a n : Nat) : (span a n).length = n := by unfold span; simp
theorem sumAt_succ (S : Nat → Nat) {k : Nat} (hk : k < (rangesS S).length) : sumAt S (k + 1) = sumAt S k + ((rangesS S)[k].2 + 1 - (rangesS S)[k].1) := by
  unfold sumAt
  rw [List.take_succ_eq_append_getElem hk, bytesOf_snoc, List.length_append, span_len]
theorem sumAt_all (S : Nat → Nat) : sumAt S (rangesS S).length = cntS S := by
  unfold sumAt
  rw [List.take_length]
  show (bytesOf (runs (has S) 256)).length = cntB (has S) 256
  rw [bytes_runs, upto_cnt]
theorem sumAt_le (S : Nat → Nat) {k : Nat} : k ≤ (rangesS S).length → sumAt S k ≤ 256 * k := by
  induction k with
  | zero => intro _; unfold sumAt; simp [bytesOf]
  | succ k ih =>
    intro hk
    have h1 := ih (by omega)
    have h2 := rangesS_ends S k (by omega)
    rw [sumAt_succ S (by omega)]; omega
/-- Nothing there, or the first range begins with the least. -/
theorem first_least (S : Nat → Nat) : (rangesS S = [] ∧ cntS S = 0 ∧ leastS S = -1) ∨ ∃ h : 0 < (rangesS S).length, 0 < cntS S ∧ leastS S = ((rangesS S)[0].1 : Nat) := by
  have hb : bytesOf (rangesS S) = upto (has S) 256 := bytes_runs _ _
  have hc : (upto (has S) 256).length = cntS S := upto_cnt _ _
  rcases upto_head (has S) 256 with ⟨h1, h2⟩ | ⟨k, l, h1, h2, h3⟩
  · left
    rw [h1] at hb hc
    refine ⟨?_, hc.symm, h2⟩
    cases hr : rangesS S with
    | nil => rfl
    | cons x t =>
      have := (runs_ends (has S) 256 x (by show x ∈ rangesS S; rw [hr]; exact List.mem_cons_self ..)).1
      rw [hr] at hb
      unfold bytesOf at hb
      rw [List.flatMap_cons, show x.2 + 1 - x.1 = (x.2 - x.1) + 1 from by omega, span_succ] at hb
      cases hb
  · right
    rw [h1] at hb hc
    cases hr : rangesS S with
    | nil => rw [hr] at hb; cases hb
    | cons x t =>
      have hx := (runs_ends (has S) 256 x (by show x ∈ rangesS S; rw [hr]; exact List.mem_cons_self ..)).1
      rw [hr] at hb
      unfold bytesOf at hb
      rw [List.flatMap_cons, show x.2 + 1 - x.1 = (x.2 - x.1) + 1 from by omega, span_succ] at hb
      injection hb with hb _
      refine ⟨by simp, by rw [← hc]; simp, ?_⟩
      show firstB (has S) 256 = _
      rw [h2]; simp [hb]
def CtAt (S : Nat → Nat) (n0 : Nat) (v : Value) (w wr : World) : Prop := Blk wr n0 24 (setCs S) ∧ wr.ownsRow (n0 + 1) 30 2 v (rangesS S).length (pairs (rangesS S)) ∧ Below n0 w wr
attribute [local irreducible] Calls
set_option maxHeartbeats 1000000 in
set_option maxRecDepth 100000 in
theorem count_law (S : Nat → Nat) (hS : okS S) (w : World) (hTab : TabAt 0 Lib.deBruijn64tab w) : Calls Tryd.prog 6 #[setV S] w fun e w' => e = .returned (.bool true) ∧ Below w.heap.size w w' := by
  have RC := ranges_c S hS
  have CC := count_c S hS
  have LC := fun (z : World) (h : Below w.heap.size w z) => least_c S hS z (TabAt.below hTab h)
  have AW := fun (z : World) (h : Below w.heap.size w z) => awake_c z (TabAt.below hTab h)
  unfold setV at *
  have RC' := Lib.hid RC
  have CC' := Lib.hid CC
  have LC' := Lib.hid LC
  have AW' := Lib.hid AW
  clear RC CC LC AW hTab hS
  go_enter Tryd.func6, Tryd.ntmps6
  go_wp2_with fail
  refine (RC'.out _).mono ?_; rintro e w1 ⟨v, rfl, ho, k1⟩
  obtain ⟨ao, cap, rfl, hv⟩ := own_form ho
  have rl := rangesS_len S
  have C0 := Lib.hid (show CtAt S w.heap.size (.slice ao (rangesS S).length cap) w w1 from ⟨(Blk.made w 24 (setCs S)).below k1, own_mono ho (by simp), below_step (below_alloc (Below.refl _ _) _) k1⟩)
  have HV := Lib.hid hv
  clear ho k1 hv
  go_wp2_with fail
  go_loopw [3, 4, 11] (fun n l i wr => ∃ k : Nat, k ≤ (rangesS S).length ∧ i = .int .i64 k ∧ n = .int .i64 (sumAt S k) ∧ l = .int .i64 (lastAt (rangesS S) k) ∧ CtAt S w.heap.size (.slice ao (rangesS S).length cap) w wr) (fun _ _ i _ => 256 - (intOf i).toNat)
  case atStart => exact ⟨0, by omega, rfl, rfl, rfl, C0.out⟩
  case round =>
    obtain ⟨k, hk, rfl, rfl, rfl, hst⟩ := hrel
    by_cases hlt : k < (rangesS S).length
    · obtain ⟨g, rfl, hg0, hg1⟩ := HV.out (by omega)
      have hp := own_pair hst.2.1 hlt
      have he := rangesS_ends S k hlt
      have hl := lastAt_lt S hlt
      have L1 := Lib.hid (lastAt_succ hlt)
      have S1 := Lib.hid (sumAt_succ S hlt)
      have sl := sumAt_le S hk
      generalize (rangesS S)[k] = x at hp he hl L1 S1
      generalize lastAt (rangesS S) k = la at hl ⊢
      generalize sumAt S k = su at sl S1 ⊢
      obtain ⟨p0, p1⟩ := hp
      have t1 : decide ((k : Int) < ((rangesS S).length : Nat)) = true := by simp; omega
      have t2 : decide ((x.1 : Int) ≤ la + 1) = false := by simp; omega
      have t3 : decide ((x.2 : Int) < (x.1 : Int)) = false := by simp; omega
      have HST := Lib.hid hst
      clear hst hg0 hg1
      go_wp2_with fail
      go_roundw
      case rel => exact ⟨k + 1, by omega, by go_num, by rw [S1.out]; congr 1; omega, by rw [L1.out], (HST.out.1.alloc _), HST.out.2.1.alloc _, below_alloc HST.out.2.2 _⟩
      case measure => simp [intOf] <;> omega
    · have ek : k = (rangesS S).length := by omega
      subst ek
      have t1 : decide (((rangesS S).length : Int) < ((rangesS S).length : Nat)) = false := by simp
      have ST := Lib.hid hst
      clear hst
      rw [sumAt_all S]
      have c0 : wr.cell? ⟨w.heap.size, 0, none⟩ = some (.int .u64 (S 0)) := ST.out.1.cell 0
      have c1 : wr.cell? ⟨w.heap.size, 1, none⟩ = some (.int .u64 (S 1)) := ST.out.1.cell 1
      have c2 : wr.cell? ⟨w.heap.size, 2, none⟩ = some (.int .u64 (S 2)) := ST.out.1.cell 2
      have c3 : wr.cell? ⟨w.heap.size, 3, none⟩ = some (.int .u64 (S 3)) := ST.out.1.cell 3
      go_wp2_with fail
      refine (RC'.out _).mono ?_; rintro e w2 ⟨v2, rfl, ho2, k2⟩
      obtain ⟨ao2, cap2, rfl, hv2⟩ := own_form ho2
      have Z1 := ST.out.1.below k2
      have ZW := below_step ST.out.2.2 k2
      clear c0 c1 c2 c3 k2 t1
      have c0 : ∀ x : Ext w2, x.v.cell? ⟨w.heap.size, 0, none⟩ = some (.int .u64 (S 0)) := fun x => Z1.ext x 0
      have c1 : ∀ x : Ext w2, x.v.cell? ⟨w.heap.size, 1, none⟩ = some (.int .u64 (S 1)) := fun x => Z1.ext x 1
      have c2 : ∀ x : Ext w2, x.v.cell? ⟨w.heap.size, 2, none⟩ = some (.int .u64 (S 2)) := fun x => Z1.ext x 2
      have c3 : ∀ x : Ext w2, x.v.cell? ⟨w.heap.size, 3, none⟩ = some (.int .u64 (S 3)) := fun x => Z1.ext x 3
      have HZ := Lib.hid ZW
      have HZ1 := Lib.hid Z1
      clear Z1 ZW
      rcases first_least S with ⟨e1, e2, e3⟩ | ⟨h0, e2, e3⟩
      · have CZ := Lib.hid (show ∀ z, Calls Tryd.prog 14 #[setV S] z fun e w' => e = .returned (.int .i64 0) ∧ Below z.heap.size z w' by have := CC'.out; rw [e2] at this; exact this)
        have LZ := Lib.hid (show ∀ z, Below w.heap.size w z → Calls Tryd.prog 15 #[setV S] z fun e w' => e = .returned (.int .i64 (-1)) ∧ Below z.heap.size z w' by have := LC'.out; rw [e3] at this; exact this)
        rw [e2]
        clear ho2 hv2 e1 e2 e3 CC' LC'
        unfold setV at CZ LZ
        simp only [Int.natCast_zero]
        go_upto_region 1 with fail
        refine wp_region_ext (by kernel_rfl) (by kernel_rfl) ?_
        repeat (go_big_quiet_step (first | (go_at_call 14; exact Calls.ext_of (CZ.out _)) | (go_at_call 15; exact Calls.ext_of (LZ.out _ (below_ext HZ.out _))) | exact Calls.ext_of (AW'.out _ (below_ext HZ.out _))))
        refine wpQuiet_nil ?_
        intro _ hw'
        obtain ⟨xq, hw''⟩ := hw'
        subst hw''
        go_wp2
        go_ret
        exact ⟨rfl, below_ext HZ.out xq⟩
      · obtain ⟨g, rfl, hg0, hg1⟩ := hv2 h0
        have hp := own_pair ho2 h0
        have p0 : ∀ x : Ext w2, x.v.cell? ⟨g, 0, none⟩ = some (.int .u8 ((rangesS S)[0].1 : Nat)) := fun x => x.cell (by simpa using hp.1)
        have he := rangesS_ends S 0 h0
        have LZ := Lib.hid (show ∀ z, Below w.heap.size w z → Calls Tryd.prog 15 #[setV S] z fun e w' => e = .returned (.int .i64 ((rangesS S)[0].1 : Nat)) ∧ Below z.heap.size z w' by have := LC'.out; rw [e3] at this; exact this)
        generalize (rangesS S)[0] = x0 at p0 he LZ
        have CZ := Lib.hid (show ∀ z, Calls Tryd.prog 14 #[setV S] z fun e w' => e = .returned (.int .i64 (cntS S)) ∧ Below z.heap.size z w' from CC'.out)
        clear ho2 hp e3 CC' LC' hg0 hg1 rl hk hlt hv2 ST RC' C0 HV
        obtain ⟨N, hN⟩ : ∃ N, N = cntS S := ⟨_, rfl⟩
        obtain ⟨ln, hln⟩ : ∃ ln, ln = (rangesS S).length := ⟨_, rfl⟩
        rw [← hN] at e2 CZ ⊢
        rw [← hln] at h0 ⊢
        clear hN hln
        have t1 : decide ((0 : Int) < (N : Int)) = true := by simp; omega
        have t2 : decide ((0 : Int) ≤ (x0.1 : Int)) = true := by simp
        have t3 : ((N : Int) == 0) = false := by simp; omega
        have t4 : (0 : Int) < (ln : Nat) := by omega
        unfold setV at CZ LZ
        go_upto_region 1 with fail
        refine wp_region_ext (by kernel_rfl) (by kernel_rfl) ?_
        repeat (go_big_quiet_step (first | (go_at_call 14; exact Calls.ext_of (CZ.out _)) | (go_at_call 15; exact Calls.ext_of (LZ.out _ (below_ext HZ.out _))) | exact Calls.ext_of (AW'.out _ (below_ext HZ.out _))))
        refine wpQuiet_nil ?_
        intro _ hw'
        obtain ⟨xq, hw''⟩ := hw'
        subst hw''
        go_wp2
        go_ret
        exact ⟨rfl, below_ext HZ.out xq⟩
end Go.Proofs.YtgcbcmgadllhlaaDoor
