/- The walk of RulesRemarks. -/
import Derived.Test.YtokfcndhmbkelaaRuPure
namespace Go.Proofs.Ytokfcndhmbkelaa
open Go.RowKit
theorem runF_le : ∀ (f : Nat) (l : List UInt8) (a : Nat) (acc : List Ln) (k : Nat), runF f l a acc = .error k → k ≤ a + l.length
  | 0, l, a, acc, k, h => by unfold runF at h; cases h
  | f + 1, l, a, acc, k, h => by
    have hle := lineB_le l
    have hdl : (l.drop ((lineB l).length + 1)).length = l.length - ((lineB l).length + 1) := List.length_drop ..
    have hh := (headN_le 12 (lineB l)).2
    unfold runF at h
    by_cases h1 : skipB (lineB l) = true
    · rw [if_pos h1] at h
      by_cases h2 : (lineB l).length = l.length
      · rw [if_pos h2] at h; cases h
      · rw [if_neg h2] at h
        have := runF_le f _ _ _ k h; omega
    · rw [if_neg h1] at h
      by_cases h2 : badB (lineB l) = true
      · rw [if_pos h2] at h; injection h with h; omega
      · rw [if_neg h2] at h
        by_cases h3 : acc.length = 8 ∨ hasName acc (lnOf (lineB l) a).name = true
        · rw [if_pos h3] at h; injection h with h; omega
        · rw [if_neg h3] at h
          by_cases h4 : (lineB l).length = l.length
          · rw [if_pos h4] at h; cases h
          · rw [if_neg h4] at h
            have := runF_le f _ _ _ k h; omega
theorem splitB_le {L : List UInt8} {k : Nat} (h : splitB L = .error k) : k ≤ 1000 := by
  by_cases hb : 1000 < L.length
  · unfold splitB at h; rw [if_pos hb] at h; injection h with h; omega
  · cases hr : runF (L.length + 1) L 0 [] with
    | error j => rw [splitB_err hb hr] at h; injection h with h; have := runF_le _ _ _ _ _ hr; omega
    | ok acc =>
      rw [splitB_ok hb hr] at h
      by_cases h0 : acc.length = 0
      · rw [if_pos h0] at h; injection h with h; omega
      · rw [if_neg h0] at h; cases h
set_option maxHeartbeats 4000000 in
set_option maxRecDepth 100000 in
theorem rulesRemarks_c (l r : List UInt8) (hl : l.length ≤ 140737488351232) (hr : r.length ≤ 140737488351232) (w : World) : Calls Try.prog 7 #[str l, str r] w fun e w' => e = .returned (.bool true) ∧ Below w.heap.size w w' := by
  have hs := mk_size l
  have hs2 := mk_size r
  have hg := mk_get r
  have AW := Lib.hid awake_c
  have SC := Lib.hid (fun (h : l.length ≤ 1000000) w1 => split_c l h w1)
  have SC2 := Lib.hid (fun (h : ([35] ++ r ++ [10, 10] ++ l).length ≤ 1000000) w1 => split_c ([35] ++ r ++ [10, 10] ++ l) h w1)
  have SE := Lib.hid (show (⟨#[35]⟩ : ByteArray) ++ ⟨r.toArray⟩ ++ ⟨#[10, 10]⟩ ++ ⟨l.toArray⟩ = ⟨([35] ++ r ++ [10, 10] ++ l).toArray⟩ by
    rw [show (⟨#[35]⟩ : ByteArray) = ⟨[35].toArray⟩ from rfl, show (⟨#[10, 10]⟩ : ByteArray) = ⟨[10, 10].toArray⟩ from rfl, mk_app, mk_app, mk_app])
  have HZ := Lib.hid (show ((⟨#[35]⟩ : ByteArray) ++ ⟨r.toArray⟩ ++ ⟨#[10, 10]⟩).size = r.length + 3 by
    rw [show (⟨#[35]⟩ : ByteArray) = ⟨[35].toArray⟩ from rfl, show (⟨#[10, 10]⟩ : ByteArray) = ⟨[10, 10].toArray⟩ from rfl, mk_app, mk_app, mk_size]; simp)
  unfold str at *
  rw [← SE.out] at SC2
  generalize (ByteArray.mk l.toArray) = s at *
  generalize (ByteArray.mk r.toArray) = s2 at *
  have HS := Lib.hid hs
  have HS2 := Lib.hid hs2
  have HG := Lib.hid hg
  have z1 : s.size ≤ 140737488351232 := by rw [hs]; exact hl
  have z2 : s2.size ≤ 140737488351232 := by rw [hs2]; exact hr
  clear hs hs2 hg
  by_cases hbig : 900 < s.size + s2.size
  · have t1 : decide ((900 : Int) < (s.size : Nat) + (s2.size : Nat)) = true := by simp; omega
    clear hbig
    go_enter Try.func7, Try.ntmps7
    go_wp2_with fail
    refine (AW.out _).mono ?_; rintro e w1 ⟨rfl, b1⟩
    have B1 := Lib.hid b1
    clear b1
    go_wp2_with fail
    refine (AW.out _).mono ?_; rintro e w2 ⟨rfl, b2⟩
    have B2 := Lib.hid (below_step B1.out b2)
    clear b2
    go_wp2_with fail
    go_returns
    exact ⟨rfl, B2.out⟩
  · have hlm : l.length ≤ 1000000 := by have := HS.out; omega
    have hsum : l.length + r.length ≤ 900 := by have := HS.out; have := HS2.out; omega
    have hlm2 : ([35] ++ r ++ [10, 10] ++ l).length ≤ 1000000 := by simp; omega
    have hsm : s.size ≤ 900 := by omega
    have hsm2 : s2.size ≤ 900 := by omega
    have t1 : decide ((900 : Int) < (s.size : Nat) + (s2.size : Nat)) = false := by simp; omega
    clear hbig
    go_enter Try.func7, Try.ntmps7
    go_wp2_with fail
    refine (AW.out _).mono ?_; rintro e w1 ⟨rfl, b1⟩
    have B1 := Lib.hid b1
    clear b1
    go_wp2_with fail
    go_loop [27] (fun i => ∃ j : Nat, j ≤ r.length ∧ i = .int .i64 j ∧ ∀ q, q < j → nth r q ≠ 10) (fun i => r.length - (intOf i).toNat)
    case atStart => exact ⟨0, by omega, rfl, fun q h => absurd h (by omega)⟩
    case round =>
      obtain ⟨j, hj, rfl, hno⟩ := hrel
      have HN := Lib.hid hno
      have hss := HS2.out
      clear hno
      by_cases hlt : j < r.length
      · have h2 : j < s2.size := by omega
        have e1 := HG.out j h2
        have t3 : decide (j < s2.size) = true := by simp; omega
        by_cases h10 : nth r j = 10
        · have t4 : ((nth r j : Int) == 10) = true := by rw [h10]; rfl
          clear h10 hss
          go_wp2_with fail
          go_returns
          exact ⟨rfl, B1.out⟩
        · have t4 : ((nth r j : Int) == 10) = false := by simp; omega
          have HN2 := Lib.hid (show ∀ q, q < j + 1 → nth r q ≠ 10 from fun q hq => by
            rcases Nat.lt_or_ge q j with h | h
            · exact HN.out q h
            · rw [show q = j by omega]; exact h10)
          clear h10 hss
          go_wp2_with fail
          go_round
          case rel => exact ⟨j + 1, by omega, by go_num, HN2.out⟩
          case measure => simp [intOf]; omega
      · have t3 : ¬ (j < s2.size) := by omega
        have HR := Lib.hid (split_remark (s := l) (r := r) (fun c hc e => by
          obtain ⟨q, hq, rfl⟩ := List.getElem_of_mem hc
          exact HN.out q (by omega) (by rw [nth_get hq, e]; rfl)) hsum)
        have hsp3 : ((⟨#[35]⟩ : ByteArray) ++ s2 ++ ⟨#[10, 10]⟩).size ≤ 1000 := by rw [HZ.out]; omega
        have HZ' := HZ.out
        rw [← HZ'] at HR
        obtain ⟨hd, hhd⟩ : ∃ hd, hd = (⟨#[35]⟩ : ByteArray) ++ s2 ++ ⟨#[10, 10]⟩ := ⟨_, rfl⟩
        rw [← hhd] at HR hsp3 SC2
        have HH := Lib.hid hhd
        clear hss HZ' HZ hhd SE
        go_upto_region 10 with fail
        rw [← HH.out]
        go_wp2_with fail
        refine (SC.out hlm _).mono ?_; rintro e w2 ⟨v1, n1, k1, rfl, hr1, b2⟩
        have B2 := Lib.hid (below_step B1.out b2)
        have HR1 := Lib.hid hr1
        clear b2 hr1
        go_wp2_with fail
        refine (SC2.out hlm2 _).mono ?_; rintro e w3 ⟨v2, n2, k2, rfl, hr2, b3⟩
        have B3 := Lib.hid (below_step B2.out b3)
        rw [HR.out] at hr2
        have hr1 := HR1.out
        cases hsp : splitB l with
        | error k =>
          rw [hsp] at hr1 hr2
          obtain ⟨rfl, rfl, rfl⟩ := hr1
          obtain ⟨rfl, rfl, rfl⟩ := hr2
          have hkm : k ≤ 1000 := splitB_le hsp
          have t5 : (((k + hd.size : Nat) : Int) != (k : Int) + (hd.size : Nat)) = false := by simp
          clear hsp HR HR1 b3
          go_wp2_with fail
          go_loop [76] (fun i => i = .int .i64 0) (fun _ => 0)
          case atStart => rfl
          case round =>
            subst hrel
            go_wp2_with fail
            go_returns
            exact ⟨rfl, B3.out⟩
        | ok ls =>
          rw [hsp] at hr1 hr2
          obtain ⟨h1, rfl, rfl⟩ := hr1
          obtain ⟨h2, rfl, rfl⟩ := hr2
          have HL1 := Lib.hid ((h1.below b3).mono (Nat.zero_le _))
          have HL2 := Lib.hid (LinesAt.mono h2 (Nat.zero_le _))
          have HST := Lib.hid (splitB_stands hsp)
          have hls := (splitB_small hsp).1
          have hll := (splitB_small hsp).2
          obtain ⟨A1, cap1, rfl, _, _⟩ := h1
          obtain ⟨A2, cap2, rfl, _, _⟩ := h2
          rw [List.length_map] at *
          clear b3 HR1 hsp HR SC SC2
          go_wp2_with fail
          go_loopw [76] (fun v wr => ∃ k : Nat, k ≤ ls.length ∧ v = .int .i64 k ∧ Below w3.heap.size w3 wr) (fun v _ => ls.length - (intOf v).toNat)
          case atStart => exact ⟨0, by omega, rfl, Below.refl _ _⟩
          case round =>
            obtain ⟨k, hk, rfl, hkp⟩ := hrel
            have HKP := Lib.hid hkp
            clear hkp
            by_cases hlt : k < ls.length
            · have l1 := HL1.out.below HKP.out
              have l2 := HL2.out.below HKP.out
              obtain ⟨B1', q1, e', _, hc1⟩ := l1
              injection e' with e1 _ e2
              subst e1
              subst e2
              obtain ⟨g, o, rfl, _, hg, hcell1⟩ := hc1 (by omega)
              obtain ⟨c0, c1, c2⟩ := hcell1 k hlt
              obtain ⟨B2', q2, e', _, hc2⟩ := l2
              injection e' with e1 e0 e2
              clear e0
              subst e1
              subst e2
              obtain ⟨g2, o2, rfl, _, hg2, hcell2⟩ := hc2 (by simp; omega)
              obtain ⟨c3, c4, c5⟩ := hcell2 k (by simpa using hlt)
              rw [List.getElem_map] at c3 c4 c5
              obtain ⟨n, hn1, hn2, hn3⟩ := HST.out _ (List.getElem_mem hlt)
              have t2 : decide (k < ls.length) = true := by simp; omega
              have t3 : (k : Int) < (ls.length : Nat) := by omega
              have t4 : (0 : Int) ≤ (k : Int) := by omega
              clear hc1 hc2 hcell1 hcell2
              rw [show (shLn hd.size ls[k]).name = ls[k].name from rfl] at c3
              rw [show (shLn hd.size ls[k]).text = ls[k].text from rfl] at c4
              rw [show (shLn hd.size ls[k]).at_ = ls[k].at_ + (hd.size : Nat) from rfl] at c5
              unfold str at *
              rw [hn1] at c2 c5
              have hn4 : n ≤ 1000 := by omega
              generalize (⟨ls[k].name.toArray⟩ : ByteArray) = s3 at *
              generalize (⟨ls[k].text.toArray⟩ : ByteArray) = s4 at *
              clear hn1 hn2 hn3
              have d0 : ∀ y : Ext wr, y.v.cell? ⟨g, o + k * 3, none⟩ = some (.string s3) := fun y => y.cell c0
              have d1 : ∀ y : Ext wr, y.v.cell? ⟨g, o + k * 3 + 1, none⟩ = some (.string s4) := fun y => y.cell c1
              have d2 : ∀ y : Ext wr, y.v.cell? ⟨g, o + k * 3 + 2, none⟩ = some (.int .i64 n) := fun y => y.cell c2
              have d3 : ∀ y : Ext wr, y.v.cell? ⟨g2, o2 + k * 3, none⟩ = some (.string s3) := fun y => y.cell c3
              have d4 : ∀ y : Ext wr, y.v.cell? ⟨g2, o2 + k * 3 + 1, none⟩ = some (.string s4) := fun y => y.cell c4
              have d5 : ∀ y : Ext wr, y.v.cell? ⟨g2, o2 + k * 3 + 2, none⟩ = some (.int .i64 ((n : Int) + (hd.size : Nat))) := fun y => y.cell c5
              clear c0 c1 c2 c3 c4 c5
              go_upto_region 17 with fail
              refine wp_region_ext (by kernel_rfl) (by kernel_rfl) ?_
              repeat (go_big_quiet_step (fail))
              refine wpQuiet_nil ?_
              intro _ hw'
              obtain ⟨xq, hw''⟩ := hw'
              subst hw''
              have HW2 := Lib.hid (below_step HKP.out xq.h)
              clear d0 d1 d2 d3 d4 d5
              go_wp2_with fail
              go_roundw
              case rel => exact ⟨k + 1, by omega, by go_num, HW2.out⟩
              case measure => simp [intOf]; omega
            · have e : k = ls.length := by omega
              subst e
              have t0 : ¬ ls.length < ls.length := by omega
              go_wp2_with fail
              go_returns
              exact ⟨rfl, below_step B3.out HKP.out⟩
end Go.Proofs.Ytokfcndhmbkelaa
